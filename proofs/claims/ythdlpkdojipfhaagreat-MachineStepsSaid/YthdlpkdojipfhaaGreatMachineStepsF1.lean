/- Laid for the law MachineSteps. -/
import Derived.Test.YthdlpkdojipfhaaGreatMachineStepsF0
set_option linter.unusedVariables false
set_option maxRecDepth 100000
namespace Go.Proofs.YthdlpkdojipfhaaGreat.VX.VxM_M
open Go.Proofs Go.Proofs.YthdlpkdojipfhaaGreat.VX.T2
noncomputable section
abbrev Zqm:Shape:={ sl:=sl_27,bl:=[],ts:=[y40,y5],pin:=0 }
abbrev Zw3:Shape:={ sl:=sl_28,bl:=[],ts:=[y40,y30,(.int .i64)],pin:=0 }
def Zc (x:T45):Option T48 :=
 (Za x.1).bind fun r18 =>
 bif (Bool.not r18) then
 some (((0:Int),false,((0:Int),(0:Int),([]:List Int),(0:Int)),(0:Int),(0:Int),([]:List T7),([]:List T7)),((0:Int),(0:Int),((0:Int),(0:Int),(0:Int)),(0:Int)),(1:Int))
 else
 (Ze x.2).bind fun r19 =>
 bif (Bool.not r19) then
 some (((0:Int),false,((0:Int),(0:Int),([]:List Int),(0:Int)),(0:Int),(0:Int),([]:List T7),([]:List T7)),((0:Int),(0:Int),((0:Int),(0:Int),(0:Int)),(0:Int)),(1:Int))
 else
 (Zq (x.1.2.2.2.2.2.2,x.1,x.2.1)).bind fun r20 =>
 (Zl r20.2).bind fun r21 =>
 bif r21.1 then
 some (x.1,((0:Int),(0:Int),((Int.negSucc 0),(0:Int),(0:Int)),(0:Int)),(0:Int))
 else
 bif r20.2.1.2.1 then
 some (x.1,((3:Int),(0:Int),((Int.negSucc 0),(0:Int),(0:Int)),(0:Int)),(0:Int))
 else
 bif (r20.1.1 != (Int.negSucc 0)) then
 bif (r20.2.1.2.2.2.1 == (1048576:Int)) then
 some (((0:Int),false,((0:Int),(0:Int),([]:List Int),(0:Int)),(0:Int),(0:Int),([]:List T7),([]:List T7)),((0:Int),(0:Int),((0:Int),(0:Int),(0:Int)),(0:Int)),(5:Int))
 else
 bif (r20.1.1 != (Int.negSucc 0)) then
 (Zo (r20.1.1,r20.2)).bind fun r22 =>
 (Zs r22).bind fun r23 =>
 some (r23.2.1,((1:Int),r23.1,r20.1,r23.1),(0:Int))
 else
 (Zi r20.2).bind fun r22 =>
 bif (Bool.not r22.1) then
 (Zw r20.2).bind fun r23 =>
 some (r23.2.1,((1:Int),r23.1,r20.1,(0:Int)),(0:Int))
 else
 (Zat (r20.2.1.2.2.2.2.2.1,x.2)).bind fun r23 =>
 bif (r23.2 != (0:Int)) then
 some (((0:Int),false,((0:Int),(0:Int),([]:List Int),(0:Int)),(0:Int),(0:Int),([]:List T7),([]:List T7)),((0:Int),(0:Int),((0:Int),(0:Int),(0:Int)),(0:Int)),r23.2)
 else
 some ((r20.2.1.1,r20.2.1.2.1,r20.2.1.2.2.1,r20.2.1.2.2.2.1,r20.2.1.2.2.2.2.1,r23.1,r20.2.1.2.2.2.2.2.2),((0:Int),(0:Int),r20.1,(0:Int)),(0:Int))
 else
 (Zi r20.2).bind fun r22 =>
 bif (Bool.not r22.1) then
 bif (r20.2.1.2.2.2.1 == (1048576:Int)) then
 some (((0:Int),false,((0:Int),(0:Int),([]:List Int),(0:Int)),(0:Int),(0:Int),([]:List T7),([]:List T7)),((0:Int),(0:Int),((0:Int),(0:Int),(0:Int)),(0:Int)),(5:Int))
 else
 bif (r20.1.1 != (Int.negSucc 0)) then
 (Zo (r20.1.1,r20.2)).bind fun r23 =>
 (Zs r23).bind fun r24 =>
 some (r24.2.1,((1:Int),r24.1,r20.1,r24.1),(0:Int))
 else
 (Zi r20.2).bind fun r23 =>
 bif (Bool.not r23.1) then
 (Zw r20.2).bind fun r24 =>
 some (r24.2.1,((1:Int),r24.1,r20.1,(0:Int)),(0:Int))
 else
 (Zat (r20.2.1.2.2.2.2.2.1,x.2)).bind fun r24 =>
 bif (r24.2 != (0:Int)) then
 some (((0:Int),false,((0:Int),(0:Int),([]:List Int),(0:Int)),(0:Int),(0:Int),([]:List T7),([]:List T7)),((0:Int),(0:Int),((0:Int),(0:Int),(0:Int)),(0:Int)),r24.2)
 else
 some ((r20.2.1.1,r20.2.1.2.1,r20.2.1.2.2.1,r20.2.1.2.2.2.1,r20.2.1.2.2.2.2.1,r24.1,r20.2.1.2.2.2.2.2.2),((0:Int),(0:Int),r20.1,(0:Int)),(0:Int))
 else
 bif (r20.1.1 != (Int.negSucc 0)) then
 (Zo (r20.1.1,r20.2)).bind fun r23 =>
 (Zs r23).bind fun r24 =>
 some (r24.2.1,((1:Int),r24.1,r20.1,r24.1),(0:Int))
 else
 (Zi r20.2).bind fun r23 =>
 bif (Bool.not r23.1) then
 (Zw r20.2).bind fun r24 =>
 some (r24.2.1,((1:Int),r24.1,r20.1,(0:Int)),(0:Int))
 else
 (Zat (r20.2.1.2.2.2.2.2.1,x.2)).bind fun r24 =>
 bif (r24.2 != (0:Int)) then
 some (((0:Int),false,((0:Int),(0:Int),([]:List Int),(0:Int)),(0:Int),(0:Int),([]:List T7),([]:List T7)),((0:Int),(0:Int),((0:Int),(0:Int),(0:Int)),(0:Int)),r24.2)
 else
 some ((r20.2.1.1,r20.2.1.2.1,r20.2.1.2.2.1,r20.2.1.2.2.2.1,r20.2.1.2.2.2.2.1,r24.1,r20.2.1.2.2.2.2.2.2),((0:Int),(0:Int),r20.1,(0:Int)),(0:Int))
abbrev Z11k:=Spec.shp Zqm Zw3 Zc
def Zf7:Ctx:={ tb:=mkTb T2.tbl,fx:=[(112,[],Z11j),(206,[],Z11l),(167,[],Z11q),(165,[],Spec.shpR Zqq Zw7 Zl),(205,[],Z11p),(209,[],Z11r),(166,[],Spec.shpR Zqp Zw6 Zi),(208,[],Z11t),(171,[],Z16p)],sum:=[],nt:=128,pin:=0,nr:=true,ys:=[] }
theorem Zd:Sound Tryz.prog 170 (Z11k) :=
 Sound.shp (C:=Zf7) (fn:=Tryz.f170) (by kernel_rfl) (c:=bodyOf Tryz.f170) (by kernel_rfl) (by decide) (ctxOK mixed tbl_ok rfl ⟨Zb,Zf,Zr,Zn,Zp,Zt,Zk,Zx,Zau,trivial⟩ trivial) (SumOK.of trivial) (by kernel_rfl) Zqm Zw3 rfl (by decide) (by decide) rfl (by decide) rfl Zc (fun x=>by kernel_rfl)
abbrev Zus:Shape:={ sl:=[(0,(.hole y21))],bl:=[],ts:=[y21],pin:=0 }
abbrev Z109:Shape:={ sl:=[(0,(.hole y21)),(1,(.hole (.int .i64))),(2,(.hole (.int .i64)))],bl:=[],ts:=[y21,(.int .i64),(.int .i64)],pin:=0 }
def Z8r (x:(T16)):Option (T16 × Int × Int) :=
 (Z8v x).bind fun r25 =>
 bif (Bool.not r25) then
 some (((0:Int),(0:Int),([]:List Int),(0:Int)),(0:Int),(1:Int))
 else
 bif (x.2.2.2 == (0:Int)) then
 some (((0:Int),(0:Int),([]:List Int),(0:Int)),(0:Int),(4:Int))
 else
 (Z91 (x,(0:Int))).bind fun r26 =>
 bif (inb r26 (List.length x.2.2.1)) then
 (Z91 (x,(1:Int))).bind fun r27 =>
 some ((x.1,r27,x.2.2.1,(IntKind.wrap .i64 (x.2.2.2 - (1:Int)))),(getAt (0:Int) x.2.2.1 (toN r26)),(0:Int))
 else
 none
abbrev Z15p:=Spec.shp Zus Z109 Z8r
def Zl0:Ctx:={ tb:=mkTb T2.tbl,fx:=[(196,[],Z15r),(232,[],Z15u)],sum:=[],nt:=34,pin:=0,nr:=true,ys:=[] }
theorem Z8s:Sound Tryz.prog 234 (Z15p) :=
 Sound.shp (C:=Zl0) (fn:=Tryz.f234) (by kernel_rfl) (c:=bodyOf Tryz.f234) (by kernel_rfl) (by decide) (ctxOK mixed tbl_ok rfl ⟨Z8w,Z94,trivial⟩ trivial) (SumOK.of trivial) (by kernel_rfl) Zus Z109 rfl (by decide) (by decide) rfl (by decide) rfl Z8r (fun x=>by kernel_rfl)
abbrev Zqu:Shape:={ sl:=sl_15,bl:=bl_12,ts:=[y42],pin:=0 }
abbrev Zwb:Shape:={ sl:=sl_2,bl:=bl_12,ts:=[(.int .i64),y42],pin:=1 }
def Zu (x:(T46)):Option (Int × T46) :=
 (Z8r x.1.2.2.1).bind fun r24 =>
 some (r24.2.1,(x.1.1,x.1.2.1,r24.1,x.1.2.2.2.1,(IntKind.wrap .i64 (x.1.2.2.2.2.1+(1:Int))),x.1.2.2.2.2.2),x.2)
abbrev Z11s:=Spec.shp Zqu Zwb Zu
def Zfg:Ctx:={ tb:=mkTb T2.tbl,fx:=[(234,[],Z15p)],sum:=[],nt:=28,pin:=1,nr:=true,ys:=[] }
theorem Zv:Sound Tryz.prog 207 (Z11s) :=
 Sound.shp (C:=Zfg) (fn:=Tryz.f207) (by kernel_rfl) (c:=bodyOf Tryz.f207) (by kernel_rfl) (by decide) (ctxOK mixed tbl_ok rfl ⟨Z8s,trivial⟩ trivial) (SumOK.of trivial) (by kernel_rfl) Zqu Zwb rfl (by decide) (by decide) rfl (by decide) rfl Zu (fun x=>by kernel_rfl)
abbrev Zqk:Shape:={ sl:=sl_27,bl:=[],ts:=[y40,y5],pin:=0 }
abbrev Zw1:Shape:={ sl:=sl_28,bl:=[],ts:=[y40,y30,(.int .i64)],pin:=0 }
def Z8 (x:T45):Option T48 :=
 (Za x.1).bind fun r18 =>
 bif (Bool.not r18) then
 some (((0:Int),false,((0:Int),(0:Int),([]:List Int),(0:Int)),(0:Int),(0:Int),([]:List T7),([]:List T7)),((0:Int),(0:Int),((0:Int),(0:Int),(0:Int)),(0:Int)),(1:Int))
 else
 (Ze x.2).bind fun r19 =>
 bif (Bool.not r19) then
 some (((0:Int),false,((0:Int),(0:Int),([]:List Int),(0:Int)),(0:Int),(0:Int),([]:List T7),([]:List T7)),((0:Int),(0:Int),((0:Int),(0:Int),(0:Int)),(0:Int)),(1:Int))
 else
 (Zq (x.1.2.2.2.2.2.1,x.1,x.2.1)).bind fun r20 =>
 bif (r20.1.1 != (Int.negSucc 0)) then
 bif (r20.2.1.2.2.2.1 == (1048576:Int)) then
 some (((0:Int),false,((0:Int),(0:Int),([]:List Int),(0:Int)),(0:Int),(0:Int),([]:List T7),([]:List T7)),((0:Int),(0:Int),((0:Int),(0:Int),(0:Int)),(0:Int)),(5:Int))
 else
 (Zo (r20.1.1,r20.2)).bind fun r21 =>
 (Zl r21).bind fun r22 =>
 bif r22.1 then
 some (x.1,((0:Int),(0:Int),r20.1,(0:Int)),(0:Int))
 else
 bif (decide (r21.1.2.2.1.2.2.2 > (0:Int))) then
 (Zu r21).bind fun r23 =>
 bif (r20.1.1 != (Int.negSucc 0)) then
 (Zw r23.2).bind fun r24 =>
 some (r24.2.1,((1:Int),r23.1,r20.1,r24.1),(0:Int))
 else
 some (r23.2.1,((1:Int),r23.1,r20.1,(0:Int)),(0:Int))
 else
 bif (r20.1.1 != (Int.negSucc 0)) then
 (Zs r21).bind fun r23 =>
 some (r23.2.1,((1:Int),r23.1,r20.1,r23.1),(0:Int))
 else
 bif r21.1.2.1 then
 some (x.1,((2:Int),(0:Int),r20.1,(0:Int)),(0:Int))
 else
 (Zat (r21.1.2.2.2.2.2.2,x.2)).bind fun r23 =>
 bif (r23.2 != (0:Int)) then
 some (((0:Int),false,((0:Int),(0:Int),([]:List Int),(0:Int)),(0:Int),(0:Int),([]:List T7),([]:List T7)),((0:Int),(0:Int),((0:Int),(0:Int),(0:Int)),(0:Int)),r23.2)
 else
 some ((r21.1.1,r21.1.2.1,r21.1.2.2.1,r21.1.2.2.2.1,r21.1.2.2.2.2.1,r21.1.2.2.2.2.2.1,r23.1),((0:Int),(0:Int),r20.1,(0:Int)),(0:Int))
 else
 (Zl r20.2).bind fun r21 =>
 bif r21.1 then
 some (x.1,((0:Int),(0:Int),r20.1,(0:Int)),(0:Int))
 else
 bif (decide (r20.2.1.2.2.1.2.2.2 > (0:Int))) then
 (Zu r20.2).bind fun r22 =>
 bif (r20.1.1 != (Int.negSucc 0)) then
 (Zw r22.2).bind fun r23 =>
 some (r23.2.1,((1:Int),r22.1,r20.1,r23.1),(0:Int))
 else
 some (r22.2.1,((1:Int),r22.1,r20.1,(0:Int)),(0:Int))
 else
 bif (r20.1.1 != (Int.negSucc 0)) then
 (Zs r20.2).bind fun r22 =>
 some (r22.2.1,((1:Int),r22.1,r20.1,r22.1),(0:Int))
 else
 bif r20.2.1.2.1 then
 some (x.1,((2:Int),(0:Int),r20.1,(0:Int)),(0:Int))
 else
 (Zat (r20.2.1.2.2.2.2.2.2,x.2)).bind fun r22 =>
 bif (r22.2 != (0:Int)) then
 some (((0:Int),false,((0:Int),(0:Int),([]:List Int),(0:Int)),(0:Int),(0:Int),([]:List T7),([]:List T7)),((0:Int),(0:Int),((0:Int),(0:Int),(0:Int)),(0:Int)),r22.2)
 else
 some ((r20.2.1.1,r20.2.1.2.1,r20.2.1.2.2.1,r20.2.1.2.2.2.1,r20.2.1.2.2.2.2.1,r20.2.1.2.2.2.2.2.1,r22.1),((0:Int),(0:Int),r20.1,(0:Int)),(0:Int))
abbrev Z11i:=Spec.shp Zqk Zw1 Z8
def Zf5:Ctx:={ tb:=mkTb T2.tbl,fx:=[(112,[],Z11j),(206,[],Z11l),(167,[],Z11q),(205,[],Z11p),(165,[],Spec.shpR Zqq Zw7 Zl),(207,[],Z11s),(208,[],Z11t),(209,[],Z11r),(171,[],Z16p)],sum:=[],nt:=130,pin:=0,nr:=true,ys:=[] }
theorem Z9:Sound Tryz.prog 169 (Z11i) :=
 Sound.shp (C:=Zf5) (fn:=Tryz.f169) (by kernel_rfl) (c:=bodyOf Tryz.f169) (by kernel_rfl) (by decide) (ctxOK mixed tbl_ok rfl ⟨Zb,Zf,Zr,Zp,Zn,Zv,Zx,Zt,Zau,trivial⟩ trivial) (SumOK.of trivial) (by kernel_rfl) Zqk Zw1 rfl (by decide) (by decide) rfl (by decide) rfl Z8 (fun x=>by kernel_rfl)
abbrev Zrn:Shape:={ sl:=sl_29,bl:=bl_2,ts:=[y5,(.int .i64),.bool,y39,y4,y18,y41,y19,y26,y27],pin:=0 }
abbrev Zx4:Shape:={ sl:=[(0,(.hole y30))],bl:=bl_2,ts:=[y30,y39,y4,y18,y41,y19,y26,y27],pin:=1 }
def Z2g (x:(T7 × Int × Bool × T47 × (Int × Int) × List (T17) × List T43 × List (T18) × List T29 × List (T20))):Option ((Int × T23) × T47 × (Int × Int) × List (T17) × List T43 × List (T18) × List T29 × List (T20)) :=
 bif x.2.2.1 then
 bif (inb x.2.1 (List.length x.2.2.2.2.2.2.1)) then
 (Zc ((getAt ((0:Int),false,((0:Int),(0:Int),([]:List Int),(0:Int)),(0:Int),(0:Int),([]:List T7),([]:List T7)) x.2.2.2.2.2.2.1 (toN x.2.1)),x.1)).bind fun r17 =>
 bif (inb x.2.1 (List.length x.2.2.2.2.2.2.1)) then
 some (r17.2.1,x.2.2.2.1,x.2.2.2.2.1,x.2.2.2.2.2.1,(List.set x.2.2.2.2.2.2.1 (toN x.2.1) r17.1),x.2.2.2.2.2.2.2.1,x.2.2.2.2.2.2.2.2.1,x.2.2.2.2.2.2.2.2.2)
 else
 none
 else
 none
 else
 bif (inb x.2.1 (List.length x.2.2.2.2.2.2.1)) then
 (Z8 ((getAt ((0:Int),false,((0:Int),(0:Int),([]:List Int),(0:Int)),(0:Int),(0:Int),([]:List T7),([]:List T7)) x.2.2.2.2.2.2.1 (toN x.2.1)),x.1)).bind fun r17 =>
 bif (inb x.2.1 (List.length x.2.2.2.2.2.2.1)) then
 some (r17.2.1,x.2.2.2.1,x.2.2.2.2.1,x.2.2.2.2.2.1,(List.set x.2.2.2.2.2.2.1 (toN x.2.1) r17.1),x.2.2.2.2.2.2.2.1,x.2.2.2.2.2.2.2.2.1,x.2.2.2.2.2.2.2.2.2)
 else
 none
 else
 none
abbrev Z12l:=Spec.shp Zrn Zx4 Z2g
def Zgh:Ctx:={ tb:=mkTb T2.tbl,fx:=[(170,[],Z11k),(169,[],Z11i)],sum:=[],nt:=38,pin:=1,nr:=true,ys:=[] }
theorem Z2h:Sound Tryz.prog 124 (Z12l) :=
 Sound.shp (C:=Zgh) (fn:=Tryz.f124) (by kernel_rfl) (c:=bodyOf Tryz.f124) (by kernel_rfl) (by decide) (ctxOK mixed tbl_ok rfl ⟨Zd,Z9,trivial⟩ trivial) (SumOK.of trivial) (by kernel_rfl) Zrn Zx4 rfl (by decide) (by decide) rfl (by decide) rfl Z2g (fun x=>by kernel_rfl)
abbrev Zs1:Shape:={ sl:=sl_25,bl:=bl_2,ts:=ts_10,pin:=0 }
abbrev Zxi:Shape:={ sl:=[],bl:=bl_2,ts:=ts_11,pin:=1 }
def Z39 (x:T58):Option T57 :=
 bif (inb x.1 (List.length x.2.2.2.1)) then
 some (x.2.1,x.2.2.1,(List.set x.2.2.2.1 (toN x.1) ((getAt ((0:Int),(0:Int),(0:Int),false) x.2.2.2.1 (toN x.1)).1,(getAt ((0:Int),(0:Int),(0:Int),false) x.2.2.2.1 (toN x.1)).2.1,(1:Int),(getAt ((0:Int),(0:Int),(0:Int),false) x.2.2.2.1 (toN x.1)).2.2.2)),x.2.2.2.2.1,x.2.2.2.2.2.1,x.2.2.2.2.2.2.1,x.2.2.2.2.2.2.2)
 else
 none
abbrev Z12z:=Spec.shp Zs1 Zxi Z39
def Zgx:Ctx:={ tb:=mkTb T2.tbl,fx:=[],sum:=[],nt:=12,pin:=1,nr:=true,ys:=[] }
theorem Z3a:Sound Tryz.prog 125 (Z12z) :=
 Sound.shp (C:=Zgx) (fn:=Tryz.f125) (by kernel_rfl) (c:=bodyOf Tryz.f125) (by kernel_rfl) (by decide) (ctxOK mixed tbl_ok rfl trivial trivial) (SumOK.of trivial) (by kernel_rfl) Zs1 Zxi rfl (by decide) (by decide) rfl (by decide) rfl Z39 (fun x=>by kernel_rfl)
abbrev Zqh:Shape:={ sl:=sl_13,bl:=[],ts:=[y40,(.int .i64)],pin:=0 }
abbrev Zvy:Shape:={ sl:=sl_13,bl:=[],ts:=[y40,(.int .i64)],pin:=0 }
def Z2 (x:T46):Option T46 :=
 (Za x.1).bind fun r23 =>
 bif (Bool.not r23) then
 some (((0:Int),false,((0:Int),(0:Int),([]:List Int),(0:Int)),(0:Int),(0:Int),([]:List T7),([]:List T7)),(1:Int))
 else
 bif (decide (x.2 < (0:Int))) then
 some (((0:Int),false,((0:Int),(0:Int),([]:List Int),(0:Int)),(0:Int),(0:Int),([]:List T7),([]:List T7)),(1:Int))
 else
 (Zo (x.2,x.1,x.2)).bind fun r24 =>
 some (r24.1,(0:Int))
abbrev Z11f:=Spec.shp Zqh Zvy Z2
def Zf2:Ctx:={ tb:=mkTb T2.tbl,fx:=[(112,[],Z11j),(205,[],Z11p)],sum:=[],nt:=26,pin:=0,nr:=true,ys:=[] }
theorem Z3:Sound Tryz.prog 168 (Z11f) :=
 Sound.shp (C:=Zf2) (fn:=Tryz.f168) (by kernel_rfl) (c:=bodyOf Tryz.f168) (by kernel_rfl) (by decide) (ctxOK mixed tbl_ok rfl ⟨Zb,Zp,trivial⟩ trivial) (SumOK.of trivial) (by kernel_rfl) Zqh Zvy rfl (by decide) (by decide) rfl (by decide) rfl Z2 (fun x=>by kernel_rfl)
abbrev Zoo:Shape:={ sl:=[(0,(.ptr 0 [])),(6,(.ptr 1 [])),(98,(.sl 2)),(99,(.hole (.int .i64))),(100,(.hole (.int .i64)))],bl:=[.var (.pr (.pr (.hole y39) (.pr (.sl 3) (.pr (.sl 2) (.pr (.sl 4) (.pr (.sl 5) (.hole y4)))))) (.sl 6)),.var (.hole y5),.row y40,.row y12,.row y15,.row y23,.row y24],ts:=[(.int .i64),(.int .i64),y39,y4,y5,y41,y18,y19,y26,y27],pin:=1 }
abbrev Zmp:List (ETag × Shape):=[(.exit 1,{ sl:=[],bl:=bl_2,ts:=ts_11,pin:=1 })]
def Zbh (x:(Int × Int × T47 × (Int × Int) × T7 × List T43 × List (T17) × List (T18) × List T29 × List (T20))):Option ((Int × Int × T47 × (Int × Int) × T7 × List T43 × List (T17) × List (T18) × List T29 × List (T20)) ⊕ (T57)) :=
 bif (decide (x.2.1 < x.1)) then
 bif (inb x.2.1 (List.length x.2.2.2.2.2.1)) then
 (Z2 ((getAt ((0:Int),false,((0:Int),(0:Int),([]:List Int),(0:Int)),(0:Int),(0:Int),([]:List T7),([]:List T7)) x.2.2.2.2.2.1 (toN x.2.1)),x.2.2.2.2.1.1)).bind fun r22 =>
 bif (inb x.2.1 (List.length x.2.2.2.2.2.1)) then
 some (.inl (x.1,(IntKind.wrap .i64 (x.2.1+(1:Int))),x.2.2.1,x.2.2.2.1,x.2.2.2.2.1,(List.set x.2.2.2.2.2.1 (toN x.2.1) r22.1),x.2.2.2.2.2.2.1,x.2.2.2.2.2.2.2.1,x.2.2.2.2.2.2.2.2.1,x.2.2.2.2.2.2.2.2.2))
 else
 none
 else
 none
 else
 some (.inr (x.2.2.1,x.2.2.2.1,x.2.2.2.2.2.2.1,x.2.2.2.2.2.1,x.2.2.2.2.2.2.2.1,x.2.2.2.2.2.2.2.2.1,x.2.2.2.2.2.2.2.2.2))
def Zg7:Ctx:={ tb:=mkTb T2.tbl,fx:=[(78,[],Z12g),(40,[],Z12x),(120,[],Z12e),(168,[],Z11f)],sum:=[],nt:=120,pin:=1,nr:=true,ys:=[] }
theorem Zbi:CSound Tryz.prog ⟨120,1,true⟩ (.loop (loopOf 13 Tryz.f123)) (Yat Zoo Zmp (loop Zbh)) :=
 Y89 (C:=Zg7) (ctxOK mixed tbl_ok rfl ⟨Z27,Z36,Z23,Z3,trivial⟩ trivial) (SumOK.of trivial) Zoo Zmp rfl rfl Zbh (fun x=>by kernel_rfl)
abbrev Zre:Shape:={ sl:=[(0,(.ptr 0 [])),(1,(.hole y5)),(2,(.hole (.int .i64))),(3,(.hole (.int .i64))),(4,(.hole (.int .i64)))],bl:=bl_2,ts:=[y5,(.int .i64),(.int .i64),(.int .i64),y39,y4,y18,y41,y19,y26,y27],pin:=0 }
abbrev Zwv:Shape:={ sl:=[],bl:=bl_2,ts:=ts_11,pin:=1 }
def Z1y (x:(T7 × Int × Int × Int × T47 × (Int × Int) × List (T17) × List T43 × List (T18) × List T29 × List (T20))):Option T57 :=
 (Z26 (x.1.1,x.2.2.2.2.1,x.2.2.2.2.2.1,x.2.2.2.2.2.2.1,x.2.2.2.2.2.2.2.1,x.2.2.2.2.2.2.2.2.1,x.2.2.2.2.2.2.2.2.2.1,x.2.2.2.2.2.2.2.2.2.2)).bind fun r18 =>
 bif (r18.1.1 == (1:Int)) then
 (Z35 (x.1.1,(3:Int),x.2.1,x.2.2.1,x.1.2.2,r18.2.1,r18.2.2.1,r18.2.2.2.1,r18.2.2.2.2.1,r18.2.2.2.2.2.1,r18.2.2.2.2.2.2.1,r18.2.2.2.2.2.2.2)).bind fun r19 =>
 (Z22 (x.1.1,r19.2.1,r19.2.2.1,r19.2.2.2.1,r19.2.2.2.2.1,r19.2.2.2.2.2.1,r19.2.2.2.2.2.2.1,r19.2.2.2.2.2.2.2)).bind fun r20 =>
 (loop Zbh ((((List.length r20.2.2.2.1):Nat):Int),(0:Int),r20.1,r20.2.1,x.1,r20.2.2.2.1,r20.2.2.1,r20.2.2.2.2.1,r20.2.2.2.2.2.1,r20.2.2.2.2.2.2)).bind fun r21 =>
 some (r21.1,r21.2.1,r21.2.2.1,r21.2.2.2.1,r21.2.2.2.2.1,r21.2.2.2.2.2.1,r21.2.2.2.2.2.2)
 else
 bif (r18.1.1 == (4:Int)) then
 bif (inb r18.1.2.1 (List.length r18.2.1.2.2.2.2.1)) then
 bif (inb x.1.2.1 (List.length (getAt (([]:List T0),false) r18.2.1.2.2.2.2.1 (toN r18.1.2.1)).1)) then
 bif (getAt (false,(0:Int)) (getAt (([]:List T0),false) r18.2.1.2.2.2.2.1 (toN r18.1.2.1)).1 (toN x.1.2.1)).1 then
 (Z35 (x.1.1,(3:Int),x.2.1,x.2.2.1,x.1.2.2,r18.2.1,r18.2.2.1,r18.2.2.2.1,r18.2.2.2.2.1,r18.2.2.2.2.2.1,r18.2.2.2.2.2.2.1,r18.2.2.2.2.2.2.2)).bind fun r19 =>
 (Z22 (x.1.1,r19.2.1,r19.2.2.1,r19.2.2.2.1,r19.2.2.2.2.1,r19.2.2.2.2.2.1,r19.2.2.2.2.2.2.1,r19.2.2.2.2.2.2.2)).bind fun r20 =>
 (loop Zbh ((((List.length r20.2.2.2.1):Nat):Int),(0:Int),r20.1,r20.2.1,x.1,r20.2.2.2.1,r20.2.2.1,r20.2.2.2.2.1,r20.2.2.2.2.2.1,r20.2.2.2.2.2.2)).bind fun r21 =>
 some (r21.1,r21.2.1,r21.2.2.1,r21.2.2.2.1,r21.2.2.2.2.1,r21.2.2.2.2.2.1,r21.2.2.2.2.2.2)
 else
 bif (x.2.2.2.1 == (2:Int)) then
 (Z35 (x.1.1,(6:Int),x.2.1,(0:Int),x.1.2.2,r18.2.1,r18.2.2.1,r18.2.2.2.1,r18.2.2.2.2.1,r18.2.2.2.2.2.1,r18.2.2.2.2.2.2.1,r18.2.2.2.2.2.2.2)).bind fun r19 =>
 bif (inb x.1.1 (List.length r19.2.2.2.1)) then
 (Z22 (x.1.1,r19.2.1,r19.2.2.1,(List.set r19.2.2.2.1 (toN x.1.1) ((getAt ((0:Int),(0:Int),(0:Int),false) r19.2.2.2.1 (toN x.1.1)).1,(getAt ((0:Int),(0:Int),(0:Int),false) r19.2.2.2.1 (toN x.1.1)).2.1,(getAt ((0:Int),(0:Int),(0:Int),false) r19.2.2.2.1 (toN x.1.1)).2.2.1,true)),r19.2.2.2.2.1,r19.2.2.2.2.2.1,r19.2.2.2.2.2.2.1,r19.2.2.2.2.2.2.2)).bind fun r20 =>
 (loop Zbh ((((List.length r20.2.2.2.1):Nat):Int),(0:Int),r20.1,r20.2.1,x.1,r20.2.2.2.1,r20.2.2.1,r20.2.2.2.2.1,r20.2.2.2.2.2.1,r20.2.2.2.2.2.2)).bind fun r21 =>
 some (r21.1,r21.2.1,r21.2.2.1,r21.2.2.2.1,r21.2.2.2.2.1,r21.2.2.2.2.2.1,r21.2.2.2.2.2.2)
 else
 none
 else
 (Z35 (x.1.1,(5:Int),x.2.1,x.2.2.1,x.1.2.2,r18.2.1,r18.2.2.1,r18.2.2.2.1,r18.2.2.2.2.1,r18.2.2.2.2.2.1,r18.2.2.2.2.2.2.1,r18.2.2.2.2.2.2.2)).bind fun r19 =>
 bif (inb x.1.1 (List.length r19.2.2.2.1)) then
 (Z22 (x.1.1,r19.2.1,r19.2.2.1,(List.set r19.2.2.2.1 (toN x.1.1) ((getAt ((0:Int),(0:Int),(0:Int),false) r19.2.2.2.1 (toN x.1.1)).1,(getAt ((0:Int),(0:Int),(0:Int),false) r19.2.2.2.1 (toN x.1.1)).2.1,(getAt ((0:Int),(0:Int),(0:Int),false) r19.2.2.2.1 (toN x.1.1)).2.2.1,false)),r19.2.2.2.2.1,r19.2.2.2.2.2.1,r19.2.2.2.2.2.2.1,r19.2.2.2.2.2.2.2)).bind fun r20 =>
 (loop Zbh ((((List.length r20.2.2.2.1):Nat):Int),(0:Int),r20.1,r20.2.1,x.1,r20.2.2.2.1,r20.2.2.1,r20.2.2.2.2.1,r20.2.2.2.2.2.1,r20.2.2.2.2.2.2)).bind fun r21 =>
 some (r21.1,r21.2.1,r21.2.2.1,r21.2.2.2.1,r21.2.2.2.2.1,r21.2.2.2.2.2.1,r21.2.2.2.2.2.2)
 else
 none
 else
 none
 else
 none
 else
 bif (x.2.2.2.1 == (2:Int)) then
 (Z35 (x.1.1,(6:Int),x.2.1,(0:Int),x.1.2.2,r18.2.1,r18.2.2.1,r18.2.2.2.1,r18.2.2.2.2.1,r18.2.2.2.2.2.1,r18.2.2.2.2.2.2.1,r18.2.2.2.2.2.2.2)).bind fun r19 =>
 bif (inb x.1.1 (List.length r19.2.2.2.1)) then
 (Z22 (x.1.1,r19.2.1,r19.2.2.1,(List.set r19.2.2.2.1 (toN x.1.1) ((getAt ((0:Int),(0:Int),(0:Int),false) r19.2.2.2.1 (toN x.1.1)).1,(getAt ((0:Int),(0:Int),(0:Int),false) r19.2.2.2.1 (toN x.1.1)).2.1,(getAt ((0:Int),(0:Int),(0:Int),false) r19.2.2.2.1 (toN x.1.1)).2.2.1,true)),r19.2.2.2.2.1,r19.2.2.2.2.2.1,r19.2.2.2.2.2.2.1,r19.2.2.2.2.2.2.2)).bind fun r20 =>
 (loop Zbh ((((List.length r20.2.2.2.1):Nat):Int),(0:Int),r20.1,r20.2.1,x.1,r20.2.2.2.1,r20.2.2.1,r20.2.2.2.2.1,r20.2.2.2.2.2.1,r20.2.2.2.2.2.2)).bind fun r21 =>
 some (r21.1,r21.2.1,r21.2.2.1,r21.2.2.2.1,r21.2.2.2.2.1,r21.2.2.2.2.2.1,r21.2.2.2.2.2.2)
 else
 none
 else
 (Z35 (x.1.1,(5:Int),x.2.1,x.2.2.1,x.1.2.2,r18.2.1,r18.2.2.1,r18.2.2.2.1,r18.2.2.2.2.1,r18.2.2.2.2.2.1,r18.2.2.2.2.2.2.1,r18.2.2.2.2.2.2.2)).bind fun r19 =>
 bif (inb x.1.1 (List.length r19.2.2.2.1)) then
 (Z22 (x.1.1,r19.2.1,r19.2.2.1,(List.set r19.2.2.2.1 (toN x.1.1) ((getAt ((0:Int),(0:Int),(0:Int),false) r19.2.2.2.1 (toN x.1.1)).1,(getAt ((0:Int),(0:Int),(0:Int),false) r19.2.2.2.1 (toN x.1.1)).2.1,(getAt ((0:Int),(0:Int),(0:Int),false) r19.2.2.2.1 (toN x.1.1)).2.2.1,false)),r19.2.2.2.2.1,r19.2.2.2.2.2.1,r19.2.2.2.2.2.2.1,r19.2.2.2.2.2.2.2)).bind fun r20 =>
 (loop Zbh ((((List.length r20.2.2.2.1):Nat):Int),(0:Int),r20.1,r20.2.1,x.1,r20.2.2.2.1,r20.2.2.1,r20.2.2.2.2.1,r20.2.2.2.2.2.1,r20.2.2.2.2.2.2)).bind fun r21 =>
 some (r21.1,r21.2.1,r21.2.2.1,r21.2.2.2.1,r21.2.2.2.2.1,r21.2.2.2.2.2.1,r21.2.2.2.2.2.2)
 else
 none
abbrev Z12c:=Spec.shp Zre Zwv Z1y
def Zg6:Ctx:={ tb:=mkTb T2.tbl,fx:=[(78,[],Z12g),(40,[],Z12x),(120,[],Z12e),(168,[],Z11f)],sum:=[(0,13,Yat Zoo Zmp (loop Zbh))],nt:=120,pin:=1,nr:=true,ys:=[] }
theorem Z1z:Sound Tryz.prog 123 (Z12c) :=
 Sound.shp (C:=Zg6) (fn:=Tryz.f123) (by kernel_rfl) (c:=bodyOf Tryz.f123) (by kernel_rfl) (by decide) (ctxOK mixed tbl_ok rfl ⟨Z27,Z36,Z23,Z3,trivial⟩ trivial) (SumOK.of ⟨(Yav (d:=.loop (loopOf 13 Tryz.f123)) (by kernel_rfl) Zbi),trivial⟩) (by kernel_rfl) Zre Zwv rfl (by decide) (by decide) rfl (by decide) rfl Z1y (fun x=>by kernel_rfl)
abbrev Zrp:Shape:={ sl:=sl_29,bl:=bl_2,ts:=[y5,(.int .i64),.bool,y39,y4,y18,y41,y19,y26,y27],pin:=0 }
abbrev Zx6:Shape:={ sl:=[],bl:=bl_2,ts:=ts_11,pin:=1 }
def Z2k (x:(T7 × Int × Bool × T47 × (Int × Int) × List (T17) × List T43 × List (T18) × List T29 × List (T20))):Option T57 :=
 (Z2g (x.1,x.2.1,x.2.2.1,x.2.2.2.1,x.2.2.2.2.1,x.2.2.2.2.2.1,x.2.2.2.2.2.2.1,x.2.2.2.2.2.2.2.1,x.2.2.2.2.2.2.2.2.1,x.2.2.2.2.2.2.2.2.2)).bind fun r16 =>
 bif (r16.1.1 == (0:Int)) then
 (Z39 (x.1.1,r16.2.1,r16.2.2.1,r16.2.2.2.1,r16.2.2.2.2.1,r16.2.2.2.2.2.1,r16.2.2.2.2.2.2.1,r16.2.2.2.2.2.2.2)).bind fun r17 =>
 some (r17.1,r17.2.1,r17.2.2.1,r17.2.2.2.1,r17.2.2.2.2.1,r17.2.2.2.2.2.1,r17.2.2.2.2.2.2)
 else
 bif (r16.1.1 == (3:Int)) then
 some (r16.2.1,(r16.2.2.1.1,(3:Int)),r16.2.2.2.1,r16.2.2.2.2.1,r16.2.2.2.2.2.1,r16.2.2.2.2.2.2.1,r16.2.2.2.2.2.2.2)
 else
 bif (r16.1.2.2.1.1 != (Int.negSucc 0)) then
 (Z1y (r16.1.2.2.1,x.2.1,r16.1.2.2.2,(1:Int),r16.2.1,r16.2.2.1,r16.2.2.2.1,r16.2.2.2.2.1,r16.2.2.2.2.2.1,r16.2.2.2.2.2.2.1,r16.2.2.2.2.2.2.2)).bind fun r17 =>
 (Z1y (x.1,x.2.1,r16.1.2.1,r16.1.1,r17.1,r17.2.1,r17.2.2.1,r17.2.2.2.1,r17.2.2.2.2.1,r17.2.2.2.2.2.1,r17.2.2.2.2.2.2)).bind fun r18 =>
 some (r18.1,r18.2.1,r18.2.2.1,r18.2.2.2.1,r18.2.2.2.2.1,r18.2.2.2.2.2.1,r18.2.2.2.2.2.2)
 else
 (Z1y (x.1,x.2.1,r16.1.2.1,r16.1.1,r16.2.1,r16.2.2.1,r16.2.2.2.1,r16.2.2.2.2.1,r16.2.2.2.2.2.1,r16.2.2.2.2.2.2.1,r16.2.2.2.2.2.2.2)).bind fun r17 =>
 some (r17.1,r17.2.1,r17.2.2.1,r17.2.2.2.1,r17.2.2.2.2.1,r17.2.2.2.2.2.1,r17.2.2.2.2.2.2)
abbrev Z12n:=Spec.shp Zrp Zx6 Z2k
def Zgj:Ctx:={ tb:=mkTb T2.tbl,fx:=[(124,[],Z12l),(125,[],Z12z),(123,[],Z12c)],sum:=[],nt:=47,pin:=1,nr:=true,ys:=[] }
theorem Z2l:Sound Tryz.prog 121 (Z12n) :=
 Sound.shp (C:=Zgj) (fn:=Tryz.f121) (by kernel_rfl) (c:=bodyOf Tryz.f121) (by kernel_rfl) (by decide) (ctxOK mixed tbl_ok rfl ⟨Z2h,Z3a,Z1z,trivial⟩ trivial) (SumOK.of trivial) (by kernel_rfl) Zrp Zx6 rfl (by decide) (by decide) rfl (by decide) rfl Z2k (fun x=>by kernel_rfl)
abbrev Zrt:Shape:={ sl:=sl_26,bl:=bl_2,ts:=ts_14,pin:=0 }
abbrev Zxa:Shape:={ sl:=[],bl:=bl_2,ts:=ts_11,pin:=1 }
def Z2s (x:T60):Option T57 :=
 (Z35 (x.1.1,(2:Int),x.2.1.2.1,(0:Int),(Int.negSucc 0),x.2.2.1,x.2.2.2.1,x.2.2.2.2.1,x.2.2.2.2.2.1,x.2.2.2.2.2.2.1,x.2.2.2.2.2.2.2.1,x.2.2.2.2.2.2.2.2)).bind fun r14 =>
 (Z2k ((x.1.1,(0:Int),r14.1),x.2.1.2.1,true,r14.2.1,r14.2.2.1,r14.2.2.2.1,r14.2.2.2.2.1,r14.2.2.2.2.2.1,r14.2.2.2.2.2.2.1,r14.2.2.2.2.2.2.2)).bind fun r15 =>
 some (r15.1,r15.2.1,r15.2.2.1,r15.2.2.2.1,r15.2.2.2.2.1,r15.2.2.2.2.2.1,r15.2.2.2.2.2.2)
abbrev Z12r:=Spec.shp Zrt Zxa Z2s
def Zgo:Ctx:={ tb:=mkTb T2.tbl,fx:=[(40,[],Z12x),(121,[],Z12n)],sum:=[],nt:=21,pin:=1,nr:=true,ys:=[] }
theorem Z2t:Sound Tryz.prog 65 (Z12r) :=
 Sound.shp (C:=Zgo) (fn:=Tryz.f65) (by kernel_rfl) (c:=bodyOf Tryz.f65) (by kernel_rfl) (by decide) (ctxOK mixed tbl_ok rfl ⟨Z36,Z2l,trivial⟩ trivial) (SumOK.of trivial) (by kernel_rfl) Zrt Zxa rfl (by decide) (by decide) rfl (by decide) rfl Z2s (fun x=>by kernel_rfl)
abbrev Zrr:Shape:={ sl:=sl_26,bl:=bl_2,ts:=ts_14,pin:=0 }
abbrev Zx8:Shape:={ sl:=[],bl:=bl_2,ts:=ts_11,pin:=1 }
def Z2o (x:T60):Option T57 :=
 (Z35 (x.1.1,(4:Int),x.2.1.2.1,(0:Int),(Int.negSucc 0),x.2.2.1,x.2.2.2.1,x.2.2.2.2.1,x.2.2.2.2.2.1,x.2.2.2.2.2.2.1,x.2.2.2.2.2.2.2.1,x.2.2.2.2.2.2.2.2)).bind fun r14 =>
 (Z2k ((x.1.1,(0:Int),r14.1),x.2.1.2.1,false,r14.2.1,r14.2.2.1,r14.2.2.2.1,r14.2.2.2.2.1,r14.2.2.2.2.2.1,r14.2.2.2.2.2.2.1,r14.2.2.2.2.2.2.2)).bind fun r15 =>
 some (r15.1,r15.2.1,r15.2.2.1,r15.2.2.2.1,r15.2.2.2.2.1,r15.2.2.2.2.2.1,r15.2.2.2.2.2.2)
abbrev Z12p:=Spec.shp Zrr Zx8 Z2o
def Zgl:Ctx:={ tb:=mkTb T2.tbl,fx:=[(40,[],Z12x),(121,[],Z12n)],sum:=[],nt:=21,pin:=1,nr:=true,ys:=[] }
theorem Z2p:Sound Tryz.prog 66 (Z12p) :=
 Sound.shp (C:=Zgl) (fn:=Tryz.f66) (by kernel_rfl) (c:=bodyOf Tryz.f66) (by kernel_rfl) (by decide) (ctxOK mixed tbl_ok rfl ⟨Z36,Z2l,trivial⟩ trivial) (SumOK.of trivial) (by kernel_rfl) Zrr Zx8 rfl (by decide) (by decide) rfl (by decide) rfl Z2o (fun x=>by kernel_rfl)
abbrev Zqg:Shape:={ sl:=[(0,(.hole y40))],bl:=[],ts:=[y40],pin:=0 }
abbrev Zvx:Shape:={ sl:=[(0,(.hole y40)),(1,(.hole (.slice y5))),(2,(.hole .bool)),(3,(.hole (.int .i64)))],bl:=[],ts:=[y40,(.slice y5),.bool,(.int .i64)],pin:=0 }
def Z0 (x:T43):Option ((Int × T40) × List (T7) × Bool × Int) :=
 (Za x).bind fun r15 =>
 bif (Bool.not r15) then
 some (((0:Int),false,((0:Int),(0:Int),([]:List Int),(0:Int)),(0:Int),(0:Int),([]:List T7),([]:List T7)),([]:List T7),false,(1:Int))
 else
 bif (decide (x.1 < (0:Int))) then
 some (x,([]:List T7),true,(0:Int))
 else
 bif x.2.1 then
 some (x,([]:List T7),true,(0:Int))
 else
 bif (decide ((((List.length x.2.2.2.2.2.1):Nat):Int) > (0:Int))) then
 some (x,([]:List T7),true,(0:Int))
 else
 some ((x.1,true,x.2.2.1,x.2.2.2.1,x.2.2.2.2.1,x.2.2.2.2.2.1,([]:List T7)),x.2.2.2.2.2.2,false,(0:Int))
abbrev Z11e:=Spec.shp Zqg Zvx Z0
def Zf1:Ctx:={ tb:=mkTb T2.tbl,fx:=[(112,[],Z11j)],sum:=[],nt:=31,pin:=0,nr:=true,ys:=[] }
theorem Z1:Sound Tryz.prog 122 (Z11e) :=
 Sound.shp (C:=Zf1) (fn:=Tryz.f122) (by kernel_rfl) (c:=bodyOf Tryz.f122) (by kernel_rfl) (by decide) (ctxOK mixed tbl_ok rfl ⟨Zb,trivial⟩ trivial) (SumOK.of trivial) (by kernel_rfl) Zqg Zvx rfl (by decide) (by decide) rfl (by decide) rfl Z0 (fun x=>by kernel_rfl)
abbrev Zor:Shape:={ sl:=[(0,(.ptr 0 [])),(5,(.ptr 1 [])),(10,(.mp 2)),(53,(.hole (.slice y5))),(54,(.hole (.int .i64))),(55,(.hole (.int .i64)))],bl:=[.var (.pr (.pr (.hole y39) (.pr (.sl 3) (.pr (.sl 4) (.pr (.sl 5) (.pr (.sl 6) (.hole y4)))))) (.sl 7)),.var (.hole y5),.mp (.int .i64) (.int .i64),.row y12,.row y40,.row y15,.row y23,.row y24],ts:=[(.slice y5),(.int .i64),(.int .i64),y39,y4,y5,(.slice y4),y18,y41,y19,y26,y27],pin:=1 }
abbrev Zms:List (ETag × Shape):=[(.exit 0,{ sl:=[],bl:=bl_2,ts:=ts_11,pin:=1 })]
def Zbn (x:(List (T7) × Int × Int × T47 × (Int × Int) × T7 × List (Int × Int) × List (T17) × List T43 × List (T18) × List T29 × List (T20))):Option ((List (T7) × Int × Int × T47 × (Int × Int) × T7 × List (Int × Int) × List (T17) × List T43 × List (T18) × List T29 × List (T20)) ⊕ (T57)) :=
 bif (decide (x.2.2.1 < x.2.1)) then
 bif (inb x.2.2.1 (List.length x.1)) then
 bif ((@mlook (Int) (Int) (Ty.beq (.int .i64)) (Ty.zero (.int .i64)) (getAt ((0:Int),(0:Int),(0:Int)) x.1 (toN x.2.2.1)).1 (@mput (Int) (Int) (Ty.beq (.int .i64)) (getAt ((0:Int),(0:Int),(0:Int)) x.1 (toN x.2.2.1)).1 (IntKind.wrap .i64 ((@mlook (Int) (Int) (Ty.beq (.int .i64)) (Ty.zero (.int .i64)) (getAt ((0:Int),(0:Int),(0:Int)) x.1 (toN x.2.2.1)).1 x.2.2.2.2.2.2.1)+(1:Int))) x.2.2.2.2.2.2.1)) == (1:Int)) then
 (Z1y ((getAt ((0:Int),(0:Int),(0:Int)) x.1 (toN x.2.2.1)),x.2.2.2.2.2.1.2.1,(0:Int),(2:Int),x.2.2.2.1,x.2.2.2.2.1,x.2.2.2.2.2.2.2.1,x.2.2.2.2.2.2.2.2.1,x.2.2.2.2.2.2.2.2.2.1,x.2.2.2.2.2.2.2.2.2.2.1,x.2.2.2.2.2.2.2.2.2.2.2)).bind fun r18 =>
 some (.inl (x.1,x.2.1,(IntKind.wrap .i64 (x.2.2.1+(1:Int))),r18.1,r18.2.1,x.2.2.2.2.2.1,(@mput (Int) (Int) (Ty.beq (.int .i64)) (getAt ((0:Int),(0:Int),(0:Int)) x.1 (toN x.2.2.1)).1 (IntKind.wrap .i64 ((@mlook (Int) (Int) (Ty.beq (.int .i64)) (Ty.zero (.int .i64)) (getAt ((0:Int),(0:Int),(0:Int)) x.1 (toN x.2.2.1)).1 x.2.2.2.2.2.2.1)+(1:Int))) x.2.2.2.2.2.2.1),r18.2.2.1,r18.2.2.2.1,r18.2.2.2.2.1,r18.2.2.2.2.2.1,r18.2.2.2.2.2.2))
 else
 some (.inl (x.1,x.2.1,(IntKind.wrap .i64 (x.2.2.1+(1:Int))),x.2.2.2.1,x.2.2.2.2.1,x.2.2.2.2.2.1,(@mput (Int) (Int) (Ty.beq (.int .i64)) (getAt ((0:Int),(0:Int),(0:Int)) x.1 (toN x.2.2.1)).1 (IntKind.wrap .i64 ((@mlook (Int) (Int) (Ty.beq (.int .i64)) (Ty.zero (.int .i64)) (getAt ((0:Int),(0:Int),(0:Int)) x.1 (toN x.2.2.1)).1 x.2.2.2.2.2.2.1)+(1:Int))) x.2.2.2.2.2.2.1),x.2.2.2.2.2.2.2.1,x.2.2.2.2.2.2.2.2.1,x.2.2.2.2.2.2.2.2.2.1,x.2.2.2.2.2.2.2.2.2.2.1,x.2.2.2.2.2.2.2.2.2.2.2))
 else
 none
 else
 some (.inr (x.2.2.2.1,x.2.2.2.2.1,x.2.2.2.2.2.2.2.1,x.2.2.2.2.2.2.2.2.1,x.2.2.2.2.2.2.2.2.2.1,x.2.2.2.2.2.2.2.2.2.2.1,x.2.2.2.2.2.2.2.2.2.2.2))
def Zgt:Ctx:={ tb:=mkTb T2.tbl,fx:=[(122,[],Z11e),(40,[],Z12x),(120,[],Z12e),(123,[],Z12c)],sum:=[],nt:=75,pin:=1,nr:=true,ys:=[] }
theorem Zbo:CSound Tryz.prog ⟨75,1,true⟩ (.loop (loopOf 10 Tryz.f67)) (Yat Zor Zms (loop Zbn)) :=
 Y89 (C:=Zgt) (ctxOK mixed tbl_ok rfl ⟨Z1,Z36,Z23,Z1z,trivial⟩ trivial) (SumOK.of trivial) Zor Zms rfl rfl Zbn (fun x=>by kernel_rfl)
abbrev Zrx:Shape:={ sl:=sl_26,bl:=bl_2,ts:=ts_14,pin:=0 }
abbrev Zxe:Shape:={ sl:=[],bl:=bl_2,ts:=ts_11,pin:=1 }
def Z31 (x:T60):Option T57 :=
 bif (inb x.2.1.2.1 (List.length x.2.2.2.2.2.1)) then
 (Z0 (getAt ((0:Int),false,((0:Int),(0:Int),([]:List Int),(0:Int)),(0:Int),(0:Int),([]:List T7),([]:List T7)) x.2.2.2.2.2.1 (toN x.2.1.2.1))).bind fun r14 =>
 bif r14.2.2.1 then
 some (x.2.2.1,(x.2.2.2.1.1,(3:Int)),x.2.2.2.2.1,x.2.2.2.2.2.1,x.2.2.2.2.2.2.1,x.2.2.2.2.2.2.2.1,x.2.2.2.2.2.2.2.2)
 else
 bif (inb x.2.1.2.1 (List.length x.2.2.2.2.2.1)) then
 (Z35 (x.1.1,(7:Int),x.2.1.2.1,(0:Int),(Int.negSucc 0),x.2.2.1,x.2.2.2.1,x.2.2.2.2.1,(List.set x.2.2.2.2.2.1 (toN x.2.1.2.1) r14.1),x.2.2.2.2.2.2.1,x.2.2.2.2.2.2.2.1,x.2.2.2.2.2.2.2.2)).bind fun r15 =>
 (Z22 (x.1.1,r15.2.1,r15.2.2.1,r15.2.2.2.1,r15.2.2.2.2.1,r15.2.2.2.2.2.1,r15.2.2.2.2.2.2.1,r15.2.2.2.2.2.2.2)).bind fun r16 =>
 (loop Zbn (r14.2.1,(((List.length r14.2.1):Nat):Int),(0:Int),r16.1,r16.2.1,x.2.1,([]:List (Int × Int)),r16.2.2.1,r16.2.2.2.1,r16.2.2.2.2.1,r16.2.2.2.2.2.1,r16.2.2.2.2.2.2)).bind fun r17 =>
 some (r17.1,r17.2.1,r17.2.2.1,r17.2.2.2.1,r17.2.2.2.2.1,r17.2.2.2.2.2.1,r17.2.2.2.2.2.2)
 else
 none
 else
 none
abbrev Z12v:=Spec.shp Zrx Zxe Z31
def Zgs:Ctx:={ tb:=mkTb T2.tbl,fx:=[(122,[],Z11e),(40,[],Z12x),(120,[],Z12e),(123,[],Z12c)],sum:=[(0,10,Yat Zor Zms (loop Zbn))],nt:=75,pin:=1,nr:=true,ys:=[] }
theorem Z32:Sound Tryz.prog 67 (Z12v) :=
 Sound.shp (C:=Zgs) (fn:=Tryz.f67) (by kernel_rfl) (c:=bodyOf Tryz.f67) (by kernel_rfl) (by decide) (ctxOK mixed tbl_ok rfl ⟨Z1,Z36,Z23,Z1z,trivial⟩ trivial) (SumOK.of ⟨(Yav (d:=.loop (loopOf 10 Tryz.f67)) (by kernel_rfl) Zbo),trivial⟩) (by kernel_rfl) Zrx Zxe rfl (by decide) (by decide) rfl (by decide) rfl Z31 (fun x=>by kernel_rfl)
abbrev Zoq:Shape:={ sl:=[(0,(.ptr 0 [])),(4,(.ptr 1 [])),(6,(.hole (.int .i64))),(28,(.hole (.slice y2))),(29,(.hole (.int .i64))),(30,(.hole (.int .i64)))],bl:=bl_15,ts:=[(.int .i64),(.slice y2),(.int .i64),(.int .i64),y39,y4,y4,y18,y41,y19,y26,y27],pin:=1 }
abbrev Zmr:List (ETag × Shape):=[(.exit 1,{ sl:=[(0,(.ptr 0 [])),(4,(.ptr 1 []))],bl:=bl_15,ts:=[y39,y4,y4,y18,y41,y19,y26,y27],pin:=1 })]
def Zbl (x:(Int × List T0 × Int × Int × T47 × (Int × Int) × (Int × Int) × List (T17) × List T43 × List (T18) × List T29 × List (T20))):Option ((Int × List T0 × Int × Int × T47 × (Int × Int) × (Int × Int) × List (T17) × List T43 × List (T18) × List T29 × List (T20)) ⊕ (T47 × (Int × Int) × (Int × Int) × List (T17) × List T43 × List (T18) × List T29 × List (T20))) :=
 bif (decide (x.2.2.2.1 < x.2.2.1)) then
 bif (inb x.2.2.2.1 (List.length x.2.1)) then
 (Z2g ((x.2.2.2.2.2.2.1.1,x.2.2.2.1,x.1),(getAt (false,(0:Int)) x.2.1 (toN x.2.2.2.1)).2,(getAt (false,(0:Int)) x.2.1 (toN x.2.2.2.1)).1,x.2.2.2.2.1,x.2.2.2.2.2.1,x.2.2.2.2.2.2.2.1,x.2.2.2.2.2.2.2.2.1,x.2.2.2.2.2.2.2.2.2.1,x.2.2.2.2.2.2.2.2.2.2.1,x.2.2.2.2.2.2.2.2.2.2.2)).bind fun r16 =>
 some (.inl (x.1,x.2.1,x.2.2.1,(IntKind.wrap .i64 (x.2.2.2.1+(1:Int))),r16.2.1,r16.2.2.1,x.2.2.2.2.2.2.1,r16.2.2.2.1,r16.2.2.2.2.1,r16.2.2.2.2.2.1,r16.2.2.2.2.2.2.1,r16.2.2.2.2.2.2.2))
 else
 none
 else
 some (.inr (x.2.2.2.2.1,x.2.2.2.2.2.1,x.2.2.2.2.2.2.1,x.2.2.2.2.2.2.2.1,x.2.2.2.2.2.2.2.2.1,x.2.2.2.2.2.2.2.2.2.1,x.2.2.2.2.2.2.2.2.2.2.1,x.2.2.2.2.2.2.2.2.2.2.2))
def Zgn:Ctx:={ tb:=mkTb T2.tbl,fx:=[(40,[],Z12x),(121,[],Z12n),(120,[],Z12e),(124,[],Z12l)],sum:=[],nt:=87,pin:=1,nr:=true,ys:=[] }
theorem Zbm:CSound Tryz.prog ⟨87,1,true⟩ (.loop (loopOf 5 Tryz.f68)) (Yat Zoq Zmr (loop Zbl)) :=
 Y89 (C:=Zgn) (ctxOK mixed tbl_ok rfl ⟨Z36,Z2l,Z23,Z2h,trivial⟩ trivial) (SumOK.of trivial) Zoq Zmr rfl rfl Zbl (fun x=>by kernel_rfl)
abbrev Zrs:Shape:={ sl:=sl_26,bl:=bl_2,ts:=ts_14,pin:=0 }
abbrev Zx9:Shape:={ sl:=[],bl:=bl_2,ts:=ts_11,pin:=1 }
def Z2q (x:T60):Option T57 :=
 (Z35 (x.1.1,(8:Int),x.2.1.2.1,(0:Int),(Int.negSucc 0),x.2.2.1,x.2.2.2.1,x.2.2.2.2.1,x.2.2.2.2.2.1,x.2.2.2.2.2.2.1,x.2.2.2.2.2.2.2.1,x.2.2.2.2.2.2.2.2)).bind fun r14 =>
 bif (inb x.2.1.2.1 (List.length r14.2.1.2.2.2.2.1)) then
 bif (x.1.2 != (Int.negSucc 0)) then
 bif (inb x.1.2 (List.length (getAt (([]:List T0),false) r14.2.1.2.2.2.2.1 (toN x.2.1.2.1)).1)) then
 (Z2k ((x.1.1,x.1.2,r14.1),(getAt (false,(0:Int)) (getAt (([]:List T0),false) r14.2.1.2.2.2.2.1 (toN x.2.1.2.1)).1 (toN x.1.2)).2,(getAt (false,(0:Int)) (getAt (([]:List T0),false) r14.2.1.2.2.2.2.1 (toN x.2.1.2.1)).1 (toN x.1.2)).1,r14.2.1,r14.2.2.1,r14.2.2.2.1,r14.2.2.2.2.1,r14.2.2.2.2.2.1,r14.2.2.2.2.2.2.1,r14.2.2.2.2.2.2.2)).bind fun r15 =>
 some (r15.1,r15.2.1,r15.2.2.1,r15.2.2.2.1,r15.2.2.2.2.1,r15.2.2.2.2.2.1,r15.2.2.2.2.2.2)
 else
 none
 else
 bif (getAt (([]:List T0),false) r14.2.1.2.2.2.2.1 (toN x.2.1.2.1)).2 then
 (Z35 (x.1.1,(9:Int),x.2.1.2.1,(0:Int),r14.1,r14.2.1,r14.2.2.1,r14.2.2.2.1,r14.2.2.2.2.1,r14.2.2.2.2.2.1,r14.2.2.2.2.2.2.1,r14.2.2.2.2.2.2.2)).bind fun r15 =>
 (Z22 (x.1.1,r15.2.1,r15.2.2.1,r15.2.2.2.1,r15.2.2.2.2.1,r15.2.2.2.2.2.1,r15.2.2.2.2.2.2.1,r15.2.2.2.2.2.2.2)).bind fun r16 =>
 some (r16.1,r16.2.1,r16.2.2.1,r16.2.2.2.1,r16.2.2.2.2.1,r16.2.2.2.2.2.1,r16.2.2.2.2.2.2)
 else
 (loop Zbl (r14.1,(getAt (([]:List T0),false) r14.2.1.2.2.2.2.1 (toN x.2.1.2.1)).1,(((List.length (getAt (([]:List T0),false) r14.2.1.2.2.2.2.1 (toN x.2.1.2.1)).1):Nat):Int),(0:Int),r14.2.1,r14.2.2.1,x.1,r14.2.2.2.1,r14.2.2.2.2.1,r14.2.2.2.2.2.1,r14.2.2.2.2.2.2.1,r14.2.2.2.2.2.2.2)).bind fun r15 =>
 (Z39 (r15.2.2.1.1,r15.1,r15.2.1,r15.2.2.2.1,r15.2.2.2.2.1,r15.2.2.2.2.2.1,r15.2.2.2.2.2.2.1,r15.2.2.2.2.2.2.2)).bind fun r16 =>
 some (r16.1,r16.2.1,r16.2.2.1,r16.2.2.2.1,r16.2.2.2.2.1,r16.2.2.2.2.2.1,r16.2.2.2.2.2.2)
 else
 none
abbrev Z12q:=Spec.shp Zrs Zx9 Z2q
def Zgm:Ctx:={ tb:=mkTb T2.tbl,fx:=[(40,[],Z12x),(121,[],Z12n),(120,[],Z12e),(124,[],Z12l),(125,[],Z12z)],sum:=[(0,5,Yat Zoq Zmr (loop Zbl))],nt:=87,pin:=1,nr:=true,ys:=[] }
theorem Z2r:Sound Tryz.prog 68 (Z12q) :=
 Sound.shp (C:=Zgm) (fn:=Tryz.f68) (by kernel_rfl) (c:=bodyOf Tryz.f68) (by kernel_rfl) (by decide) (ctxOK mixed tbl_ok rfl ⟨Z36,Z2l,Z23,Z2h,Z3a,trivial⟩ trivial) (SumOK.of ⟨(Yav (d:=.loop (loopOf 5 Tryz.f68)) (by kernel_rfl) Zbm),trivial⟩) (by kernel_rfl) Zrs Zx9 rfl (by decide) (by decide) rfl (by decide) rfl Z2q (fun x=>by kernel_rfl)
abbrev Zqz:Shape:={ sl:=[(0,(.hole (.one (.slice y5))))],bl:=[],ts:=[(.one (.slice y5))],pin:=0 }
abbrev Zwg:Shape:={ sl:=[(0,(.hole y15))],bl:=[],ts:=[y15],pin:=0 }
def Z14 (x:(List (T7))):Option (T18) :=
 some (true,x)
abbrev Z11x:=Spec.shp Zqz Zwg Z14
def Zfl:Ctx:={ tb:=mkTb T2.tbl,fx:=[],sum:=[],nt:=6,pin:=0,nr:=true,ys:=[] }
theorem Z15:Sound Tryz.prog 172 (Z11x) :=
 Sound.shp (C:=Zfl) (fn:=Tryz.f172) (by kernel_rfl) (c:=bodyOf Tryz.f172) (by kernel_rfl) (by decide) (ctxOK mixed tbl_ok rfl trivial trivial) (SumOK.of trivial) (by kernel_rfl) Zqz Zwg rfl (by decide) (by decide) rfl (by decide) rfl Z14 (fun x=>by kernel_rfl)
abbrev Zqy:Shape:={ sl:=[(0,(.hole y15)),(1,(.hole y5))],bl:=[],ts:=[y15,y5],pin:=0 }
abbrev Zwf:Shape:={ sl:=[(0,(.hole y15)),(1,(.hole .bool)),(2,(.hole (.int .i64)))],bl:=[],ts:=[y15,.bool,(.int .i64)],pin:=0 }
def Z12 (x:(T18 × T7)):Option (T18 × Bool × Int) :=
 (Zat (x.1.2,x.2)).bind fun r16 =>
 (Z10 x.1).bind fun r17 =>
 bif (Bool.not r17) then
 some ((false,([]:List T7)),false,(1:Int))
 else
 bif (r16.2 == (1:Int)) then
 some ((false,([]:List T7)),false,(1:Int))
 else
 bif (Bool.not x.1.1) then
 (Z14 ([]:List T7)).bind fun r18 =>
 some (r18,true,(0:Int))
 else
 bif (r16.2 != (0:Int)) then
 some ((false,([]:List T7)),false,r16.2)
 else
 (Z14 r16.1).bind fun r18 =>
 some (r18,false,(0:Int))
abbrev Z11w:=Spec.shp Zqy Zwf Z12
def Zfk:Ctx:={ tb:=mkTb T2.tbl,fx:=[(171,[],Z16p),(117,[],Z11v),(172,[],Z11x)],sum:=[],nt:=39,pin:=0,nr:=true,ys:=[] }
theorem Z13:Sound Tryz.prog 126 (Z11w) :=
 Sound.shp (C:=Zfk) (fn:=Tryz.f126) (by kernel_rfl) (c:=bodyOf Tryz.f126) (by kernel_rfl) (by decide) (ctxOK mixed tbl_ok rfl ⟨Zau,Z11,Z15,trivial⟩ trivial) (SumOK.of trivial) (by kernel_rfl) Zqy Zwf rfl (by decide) (by decide) rfl (by decide) rfl Z12 (fun x=>by kernel_rfl)
abbrev Zrl:Shape:={ sl:=[(0,(.ptr 0 [])),(1,(.hole (.int .i64))),(2,(.hole (.int .i64))),(3,(.hole (.int .i64)))],bl:=bl_2,ts:=[(.int .i64),(.int .i64),(.int .i64),y39,y4,y18,y41,y19,y26,y27],pin:=0 }
abbrev Zx2:Shape:={ sl:=[],bl:=bl_2,ts:=ts_11,pin:=1 }
def Z2c (x:(Int × Int × Int × T47 × (Int × Int) × List (T17) × List T43 × List (T18) × List T29 × List (T20))):Option T57 :=
 (Z35 (x.1,(11:Int),x.2.1,(0:Int),x.2.2.1,x.2.2.2.1,x.2.2.2.2.1,x.2.2.2.2.2.1,x.2.2.2.2.2.2.1,x.2.2.2.2.2.2.2.1,x.2.2.2.2.2.2.2.2.1,x.2.2.2.2.2.2.2.2.2)).bind fun r17 =>
 (Z22 (x.1,r17.2.1,r17.2.2.1,r17.2.2.2.1,r17.2.2.2.2.1,r17.2.2.2.2.2.1,r17.2.2.2.2.2.2.1,r17.2.2.2.2.2.2.2)).bind fun r18 =>
 some (r18.1,r18.2.1,r18.2.2.1,r18.2.2.2.1,r18.2.2.2.2.1,r18.2.2.2.2.2.1,r18.2.2.2.2.2.2)
abbrev Z12j:=Spec.shp Zrl Zx2 Z2c
def Zgf:Ctx:={ tb:=mkTb T2.tbl,fx:=[(40,[],Z12x),(120,[],Z12e)],sum:=[],nt:=16,pin:=1,nr:=true,ys:=[] }
theorem Z2d:Sound Tryz.prog 127 (Z12j) :=
 Sound.shp (C:=Zgf) (fn:=Tryz.f127) (by kernel_rfl) (c:=bodyOf Tryz.f127) (by kernel_rfl) (by decide) (ctxOK mixed tbl_ok rfl ⟨Z36,Z23,trivial⟩ trivial) (SumOK.of trivial) (by kernel_rfl) Zrl Zx2 rfl (by decide) (by decide) rfl (by decide) rfl Z2c (fun x=>by kernel_rfl)
abbrev Zrk:Shape:={ sl:=sl_26,bl:=bl_2,ts:=ts_14,pin:=0 }
abbrev Zx1:Shape:={ sl:=[],bl:=bl_2,ts:=ts_11,pin:=1 }
def Z2a (x:T60):Option T57 :=
 (Z35 (x.1.1,(10:Int),x.2.1.2.1,(0:Int),(Int.negSucc 0),x.2.2.1,x.2.2.2.1,x.2.2.2.2.1,x.2.2.2.2.2.1,x.2.2.2.2.2.2.1,x.2.2.2.2.2.2.2.1,x.2.2.2.2.2.2.2.2)).bind fun r14 =>
 bif (inb x.2.1.2.1 (List.length r14.2.2.2.2.2.1)) then
 (Z12 ((getAt (false,([]:List T7)) r14.2.2.2.2.2.1 (toN x.2.1.2.1)),x.1.1,(0:Int),r14.1)).bind fun r15 =>
 bif (inb x.2.1.2.1 (List.length r14.2.2.2.2.2.1)) then
 bif (Bool.not r15.2.1) then
 (Z39 (x.1.1,r14.2.1,r14.2.2.1,r14.2.2.2.1,r14.2.2.2.2.1,(List.set r14.2.2.2.2.2.1 (toN x.2.1.2.1) r15.1),r14.2.2.2.2.2.2.1,r14.2.2.2.2.2.2.2)).bind fun r16 =>
 some (r16.1,r16.2.1,r16.2.2.1,r16.2.2.2.1,r16.2.2.2.2.1,r16.2.2.2.2.2.1,r16.2.2.2.2.2.2)
 else
 (Z2c (x.1.1,x.2.1.2.1,r14.1,r14.2.1,r14.2.2.1,r14.2.2.2.1,r14.2.2.2.2.1,(List.set r14.2.2.2.2.2.1 (toN x.2.1.2.1) r15.1),r14.2.2.2.2.2.2.1,r14.2.2.2.2.2.2.2)).bind fun r16 =>
 some (r16.1,r16.2.1,r16.2.2.1,r16.2.2.2.1,r16.2.2.2.2.1,r16.2.2.2.2.2.1,r16.2.2.2.2.2.2)
 else
 none
 else
 none
abbrev Z12i:=Spec.shp Zrk Zx1 Z2a
def Zge:Ctx:={ tb:=mkTb T2.tbl,fx:=[(40,[],Z12x),(126,[],Z11w),(125,[],Z12z),(127,[],Z12j)],sum:=[],nt:=56,pin:=1,nr:=true,ys:=[] }
theorem Z2b:Sound Tryz.prog 69 (Z12i) :=
 Sound.shp (C:=Zge) (fn:=Tryz.f69) (by kernel_rfl) (c:=bodyOf Tryz.f69) (by kernel_rfl) (by decide) (ctxOK mixed tbl_ok rfl ⟨Z36,Z13,Z3a,Z2d,trivial⟩ trivial) (SumOK.of trivial) (by kernel_rfl) Zrk Zx1 rfl (by decide) (by decide) rfl (by decide) rfl Z2a (fun x=>by kernel_rfl)
abbrev Zqw:Shape:={ sl:=[(0,(.hole y15))],bl:=[],ts:=[y15],pin:=0 }
abbrev Zwd:Shape:={ sl:=[(0,(.hole y15)),(1,(.hole y5)),(2,(.hole .bool)),(3,(.hole (.int .i64)))],bl:=[],ts:=[y15,y5,.bool,(.int .i64)],pin:=0 }
def Zy (x:(T18)):Option (T18 × T7 × Bool × Int) :=
 (Z10 x).bind fun r15 =>
 bif (Bool.not r15) then
 some ((false,([]:List T7)),((0:Int),(0:Int),(0:Int)),false,(1:Int))
 else
 bif (Bool.not x.1) then
 some ((false,([]:List T7)),((0:Int),(0:Int),(0:Int)),false,(6:Int))
 else
 bif ((((List.length x.2):Nat):Int) == (0:Int)) then
 some ((false,([]:List T7)),((0:Int),(0:Int),(0:Int)),false,(0:Int))
 else
 bif (sub3 (1:Int) (((List.length x.2):Nat):Int) (List.length x.2)) then
 (Z14 (cut x.2 (toN (1:Int)) ((toN (((List.length x.2):Nat):Int)) - (toN (1:Int))))).bind fun r16 =>
 bif (inb (0:Int) (List.length x.2)) then
 some (r16,(getAt ((0:Int),(0:Int),(0:Int)) x.2 (toN (0:Int))),true,(0:Int))
 else
 none
 else
 none
abbrev Z11u:=Spec.shp Zqw Zwd Zy
def Zfi:Ctx:={ tb:=mkTb T2.tbl,fx:=[(117,[],Z11v),(172,[],Z11x)],sum:=[],nt:=34,pin:=0,nr:=true,ys:=[] }
theorem Zz:Sound Tryz.prog 128 (Z11u) :=
 Sound.shp (C:=Zfi) (fn:=Tryz.f128) (by kernel_rfl) (c:=bodyOf Tryz.f128) (by kernel_rfl) (by decide) (ctxOK mixed tbl_ok rfl ⟨Z11,Z15,trivial⟩ trivial) (SumOK.of trivial) (by kernel_rfl) Zqw Zwd rfl (by decide) (by decide) rfl (by decide) rfl Zy (fun x=>by kernel_rfl)
abbrev Zs0:Shape:={ sl:=sl_26,bl:=bl_2,ts:=ts_14,pin:=0 }
abbrev Zxh:Shape:={ sl:=[],bl:=bl_2,ts:=ts_11,pin:=1 }
def Z37 (x:T60):Option T57 :=
 bif (inb x.2.1.2.1 (List.length x.2.2.2.2.2.2.1)) then
 (Zy (getAt (false,([]:List T7)) x.2.2.2.2.2.2.1 (toN x.2.1.2.1))).bind fun r14 =>
 bif (r14.2.2.2 != (0:Int)) then
 some (x.2.2.1,(x.2.2.2.1.1,(3:Int)),x.2.2.2.2.1,x.2.2.2.2.2.1,x.2.2.2.2.2.2.1,x.2.2.2.2.2.2.2.1,x.2.2.2.2.2.2.2.2)
 else
 bif (inb x.2.1.2.1 (List.length x.2.2.2.2.2.2.1)) then
 (Z35 (x.1.1,(12:Int),x.2.1.2.1,(0:Int),(Int.negSucc 0),x.2.2.1,x.2.2.2.1,x.2.2.2.2.1,x.2.2.2.2.2.1,(List.set x.2.2.2.2.2.2.1 (toN x.2.1.2.1) r14.1),x.2.2.2.2.2.2.2.1,x.2.2.2.2.2.2.2.2)).bind fun r15 =>
 (Z22 (x.1.1,r15.2.1,r15.2.2.1,r15.2.2.2.1,r15.2.2.2.2.1,r15.2.2.2.2.2.1,r15.2.2.2.2.2.2.1,r15.2.2.2.2.2.2.2)).bind fun r16 =>
 bif r14.2.2.1 then
 (Z2c (r14.2.1.1,x.2.1.2.1,r14.2.1.2.2,r16.1,r16.2.1,r16.2.2.1,r16.2.2.2.1,r16.2.2.2.2.1,r16.2.2.2.2.2.1,r16.2.2.2.2.2.2)).bind fun r17 =>
 some (r17.1,r17.2.1,r17.2.2.1,r17.2.2.2.1,r17.2.2.2.2.1,r17.2.2.2.2.2.1,r17.2.2.2.2.2.2)
 else
 some (r16.1,r16.2.1,r16.2.2.1,r16.2.2.2.1,r16.2.2.2.2.1,r16.2.2.2.2.2.1,r16.2.2.2.2.2.2)
 else
 none
 else
 none
abbrev Z12y:=Spec.shp Zs0 Zxh Z37
def Zgw:Ctx:={ tb:=mkTb T2.tbl,fx:=[(128,[],Z11u),(40,[],Z12x),(120,[],Z12e),(127,[],Z12j)],sum:=[],nt:=59,pin:=1,nr:=true,ys:=[] }
theorem Z38:Sound Tryz.prog 70 (Z12y) :=
 Sound.shp (C:=Zgw) (fn:=Tryz.f70) (by kernel_rfl) (c:=bodyOf Tryz.f70) (by kernel_rfl) (by decide) (ctxOK mixed tbl_ok rfl ⟨Zz,Z36,Z23,Z2d,trivial⟩ trivial) (SumOK.of trivial) (by kernel_rfl) Zs0 Zxh rfl (by decide) (by decide) rfl (by decide) rfl Z37 (fun x=>by kernel_rfl)
abbrev Zs7:Shape:={ sl:=sl_30,bl:=[],ts:=[y23,y5],pin:=0 }
abbrev Zxo:Shape:={ sl:=sl_31,bl:=[],ts:=ts_15,pin:=0 }
def Z3l (x:T30):Option T34 :=
 some (((1:Int),x.2.1,([]:List T7)),(0:Int),(0:Int))
abbrev Z135:=Spec.shp Zs7 Zxo Z3l
def Zh3:Ctx:={ tb:=mkTb T2.tbl,fx:=[],sum:=[],nt:=10,pin:=0,nr:=true,ys:=[] }
theorem Z3m:Sound Tryz.prog 173 (Z135) :=
 Sound.shp (C:=Zh3) (fn:=Tryz.f173) (by kernel_rfl) (c:=bodyOf Tryz.f173) (by kernel_rfl) (by decide) (ctxOK mixed tbl_ok rfl trivial trivial) (SumOK.of trivial) (by kernel_rfl) Zs7 Zxo rfl (by decide) (by decide) rfl (by decide) rfl Z3l (fun x=>by kernel_rfl)
abbrev Zs9:Shape:={ sl:=sl_30,bl:=[],ts:=[y23,y5],pin:=0 }
abbrev Zxq:Shape:={ sl:=sl_31,bl:=[],ts:=ts_15,pin:=0 }
def Z3p (x:T30):Option T34 :=
 bif (x.1.2.1 == x.2.1) then
 some (((0:Int),(0:Int),([]:List T7)),(0:Int),(6:Int))
 else
 (Zat (x.1.2.2,x.2)).bind fun r18 =>
 bif (r18.2 != (0:Int)) then
 some (((0:Int),(0:Int),([]:List T7)),(0:Int),r18.2)
 else
 some ((x.1.1,x.1.2.1,r18.1),(1:Int),(0:Int))
abbrev Z137:=Spec.shp Zs9 Zxq Z3p
def Zh5:Ctx:={ tb:=mkTb T2.tbl,fx:=[(171,[],Z16p)],sum:=[],nt:=29,pin:=0,nr:=true,ys:=[] }
theorem Z3q:Sound Tryz.prog 174 (Z137) :=
 Sound.shp (C:=Zh5) (fn:=Tryz.f174) (by kernel_rfl) (c:=bodyOf Tryz.f174) (by kernel_rfl) (by decide) (ctxOK mixed tbl_ok rfl ⟨Zau,trivial⟩ trivial) (SumOK.of trivial) (by kernel_rfl) Zs9 Zxq rfl (by decide) (by decide) rfl (by decide) rfl Z3p (fun x=>by kernel_rfl)
abbrev Zs8:Shape:={ sl:=sl_30,bl:=[],ts:=[y23,y5],pin:=0 }
abbrev Zxp:Shape:={ sl:=sl_31,bl:=[],ts:=ts_15,pin:=0 }
def Z3n (x:T30):Option T34 :=
 some (x.1,(2:Int),(0:Int))
abbrev Z136:=Spec.shp Zs8 Zxp Z3n
def Zh4:Ctx:={ tb:=mkTb T2.tbl,fx:=[],sum:=[],nt:=8,pin:=0,nr:=true,ys:=[] }
theorem Z3o:Sound Tryz.prog 175 (Z136) :=
 Sound.shp (C:=Zh4) (fn:=Tryz.f175) (by kernel_rfl) (c:=bodyOf Tryz.f175) (by kernel_rfl) (by decide) (ctxOK mixed tbl_ok rfl trivial trivial) (SumOK.of trivial) (by kernel_rfl) Zs8 Zxp rfl (by decide) (by decide) rfl (by decide) rfl Z3n (fun x=>by kernel_rfl)
abbrev Zs4:Shape:={ sl:=sl_30,bl:=[],ts:=[y23,y5],pin:=0 }
abbrev Zxl:Shape:={ sl:=sl_31,bl:=[],ts:=ts_15,pin:=0 }
def Z3f (x:T30):Option T34 :=
 (Z3j x.1).bind fun r16 =>
 bif (Bool.not r16) then
 some (((0:Int),(0:Int),([]:List T7)),(0:Int),(1:Int))
 else
 bif (decide (x.2.1 < (0:Int))) then
 some (((0:Int),(0:Int),([]:List T7)),(0:Int),(1:Int))
 else
 bif (decide (x.2.2.1 < (0:Int))) then
 some (((0:Int),(0:Int),([]:List T7)),(0:Int),(1:Int))
 else
 bif (decide (x.2.2.2 < (0:Int))) then
 some (((0:Int),(0:Int),([]:List T7)),(0:Int),(1:Int))
 else
 bif (x.1.1 == (((0:Nat):Nat):Int)) then
 (Z3l (x.1,x.2)).bind fun r17 =>
 some (r17.1,r17.2.1,r17.2.2)
 else
 bif (x.1.1 == ((((0:Nat)+(1:Nat)):Nat):Int)) then
 (Z3p (x.1,x.2)).bind fun r17 =>
 some (r17.1,r17.2.1,r17.2.2)
 else
 bif (x.1.1 == (((((0:Nat)+(1:Nat))+(1:Nat)):Nat):Int)) then
 (Z3n (x.1,x.2)).bind fun r17 =>
 some (r17.1,r17.2.1,r17.2.2)
 else
 none
abbrev Z132:=Spec.shp Zs4 Zxl Z3f
def Zh0:Ctx:={ tb:=mkTb T2.tbl,fx:=[(118,[],Z134),(173,[],Z135),(174,[],Z137),(175,[],Z136)],sum:=[],nt:=42,pin:=0,nr:=true,ys:=[] }
theorem Z3g:Sound Tryz.prog 129 (Z132) :=
 Sound.shp (C:=Zh0) (fn:=Tryz.f129) (by kernel_rfl) (c:=bodyOf Tryz.f129) (by kernel_rfl) (by decide) (ctxOK mixed tbl_ok rfl ⟨Z3k,Z3m,Z3q,Z3o,trivial⟩ trivial) (SumOK.of trivial) (by kernel_rfl) Zs4 Zxl rfl (by decide) (by decide) rfl (by decide) rfl Z3f (fun x=>by kernel_rfl)
abbrev Zry:Shape:={ sl:=sl_14,bl:=bl_2,ts:=[(.int .i64),(.int .i64),y39,y4,y18,y41,y19,y26,y27],pin:=0 }
abbrev Zxf:Shape:={ sl:=[],bl:=bl_2,ts:=ts_11,pin:=1 }
def Z33 (x:(Int × Int × T47 × (Int × Int) × List (T17) × List T43 × List (T18) × List T29 × List (T20))):Option T57 :=
 (Z26 (x.1,x.2.2.1,x.2.2.2.1,x.2.2.2.2.1,x.2.2.2.2.2.1,x.2.2.2.2.2.2.1,x.2.2.2.2.2.2.2.1,x.2.2.2.2.2.2.2.2)).bind fun r17 =>
 (Z35 (x.1,(15:Int),r17.1.2.1,(0:Int),x.2.1,r17.2.1,r17.2.2.1,r17.2.2.2.1,r17.2.2.2.2.1,r17.2.2.2.2.2.1,r17.2.2.2.2.2.2.1,r17.2.2.2.2.2.2.2)).bind fun r18 =>
 (Z24 (x.1,r17.1.2.2,r18.2.1,r18.2.2.1,r18.2.2.2.1,r18.2.2.2.2.1,r18.2.2.2.2.2.1,r18.2.2.2.2.2.2.1,r18.2.2.2.2.2.2.2)).bind fun r19 =>
 some (r19.1,r19.2.1,r19.2.2.1,r19.2.2.2.1,r19.2.2.2.2.1,r19.2.2.2.2.2.1,r19.2.2.2.2.2.2)
abbrev Z12w:=Spec.shp Zry Zxf Z33
def Zgu:Ctx:={ tb:=mkTb T2.tbl,fx:=[(78,[],Z12g),(40,[],Z12x),(41,[],Z12f)],sum:=[],nt:=21,pin:=1,nr:=true,ys:=[] }
theorem Z34:Sound Tryz.prog 130 (Z12w) :=
 Sound.shp (C:=Zgu) (fn:=Tryz.f130) (by kernel_rfl) (c:=bodyOf Tryz.f130) (by kernel_rfl) (by decide) (ctxOK mixed tbl_ok rfl ⟨Z27,Z36,Z25,trivial⟩ trivial) (SumOK.of trivial) (by kernel_rfl) Zry Zxf rfl (by decide) (by decide) rfl (by decide) rfl Z33 (fun x=>by kernel_rfl)
abbrev Zrd:Shape:={ sl:=sl_26,bl:=bl_2,ts:=ts_14,pin:=0 }
abbrev Zwu:Shape:={ sl:=[],bl:=bl_2,ts:=ts_11,pin:=1 }
def Z1w (x:T60):Option T57 :=
 (Z35 (x.1.1,(13:Int),x.2.1.2.1,(0:Int),(Int.negSucc 0),x.2.2.1,x.2.2.2.1,x.2.2.2.2.1,x.2.2.2.2.2.1,x.2.2.2.2.2.2.1,x.2.2.2.2.2.2.2.1,x.2.2.2.2.2.2.2.2)).bind fun r14 =>
 bif (inb x.2.1.2.1 (List.length r14.2.2.2.2.2.2.1)) then
 (Z3f ((getAt ((0:Int),(0:Int),([]:List T7)) r14.2.2.2.2.2.2.1 (toN x.2.1.2.1)),x.1.1,(0:Int),r14.1)).bind fun r15 =>
 bif (r15.2.2 != (0:Int)) then
 (Z39 (x.1.1,r14.2.1,r14.2.2.1,r14.2.2.2.1,r14.2.2.2.2.1,r14.2.2.2.2.2.1,r14.2.2.2.2.2.2.1,r14.2.2.2.2.2.2.2)).bind fun r16 =>
 some (r16.1,r16.2.1,r16.2.2.1,r16.2.2.2.1,r16.2.2.2.2.1,r16.2.2.2.2.2.1,r16.2.2.2.2.2.2)
 else
 bif (inb x.2.1.2.1 (List.length r14.2.2.2.2.2.2.1)) then
 bif (r15.2.1 == (0:Int)) then
 (Z22 (x.1.1,r14.2.1,r14.2.2.1,r14.2.2.2.1,r14.2.2.2.2.1,r14.2.2.2.2.2.1,(List.set r14.2.2.2.2.2.2.1 (toN x.2.1.2.1) r15.1),r14.2.2.2.2.2.2.2)).bind fun r16 =>
 some (r16.1,r16.2.1,r16.2.2.1,r16.2.2.2.1,r16.2.2.2.2.1,r16.2.2.2.2.2.1,r16.2.2.2.2.2.2)
 else
 bif (r15.2.1 == (1:Int)) then
 (Z39 (x.1.1,r14.2.1,r14.2.2.1,r14.2.2.2.1,r14.2.2.2.2.1,r14.2.2.2.2.2.1,(List.set r14.2.2.2.2.2.2.1 (toN x.2.1.2.1) r15.1),r14.2.2.2.2.2.2.2)).bind fun r16 =>
 some (r16.1,r16.2.1,r16.2.2.1,r16.2.2.2.1,r16.2.2.2.2.1,r16.2.2.2.2.2.1,r16.2.2.2.2.2.2)
 else
 (Z33 (x.1.1,r14.1,r14.2.1,r14.2.2.1,r14.2.2.2.1,r14.2.2.2.2.1,r14.2.2.2.2.2.1,(List.set r14.2.2.2.2.2.2.1 (toN x.2.1.2.1) r15.1),r14.2.2.2.2.2.2.2)).bind fun r16 =>
 some (r16.1,r16.2.1,r16.2.2.1,r16.2.2.2.1,r16.2.2.2.2.1,r16.2.2.2.2.2.1,r16.2.2.2.2.2.2)
 else
 none
 else
 none
abbrev Z12b:=Spec.shp Zrd Zwu Z1w
def Zg5:Ctx:={ tb:=mkTb T2.tbl,fx:=[(40,[],Z12x),(129,[],Z132),(125,[],Z12z),(120,[],Z12e),(130,[],Z12w)],sum:=[],nt:=67,pin:=1,nr:=true,ys:=[] }
theorem Z1x:Sound Tryz.prog 71 (Z12b) :=
 Sound.shp (C:=Zg5) (fn:=Tryz.f71) (by kernel_rfl) (c:=bodyOf Tryz.f71) (by kernel_rfl) (by decide) (ctxOK mixed tbl_ok rfl ⟨Z36,Z3g,Z3a,Z23,Z34,trivial⟩ trivial) (SumOK.of trivial) (by kernel_rfl) Zrd Zwu rfl (by decide) (by decide) rfl (by decide) rfl Z1w (fun x=>by kernel_rfl)
abbrev Zs5:Shape:={ sl:=[(0,(.hole y23)),(1,(.hole (.int .i64)))],bl:=[],ts:=[y23,(.int .i64)],pin:=0 }
abbrev Zxm:Shape:={ sl:=[(0,(.hole y23)),(1,(.hole (.slice y5))),(2,(.hole (.int .i64)))],bl:=[],ts:=[y23,(.slice y5),(.int .i64)],pin:=0 }
def Z3h (x:((Int × T13) × Int)):Option ((Int × T13) × List (T7) × Int) :=
 (Z3j x.1).bind fun r15 =>
 bif (Bool.not r15) then
 some (((0:Int),(0:Int),([]:List T7)),([]:List T7),(1:Int))
 else
 bif (decide (x.2 < (0:Int))) then
 some (((0:Int),(0:Int),([]:List T7)),([]:List T7),(1:Int))
 else
 bif (x.1.1 != (1:Int)) then
 some (((0:Int),(0:Int),([]:List T7)),([]:List T7),(6:Int))
 else
 bif (x.1.2.1 != x.2) then
 some (((0:Int),(0:Int),([]:List T7)),([]:List T7),(6:Int))
 else
 some (((2:Int),(0:Int),([]:List T7)),x.1.2.2,(0:Int))
abbrev Z133:=Spec.shp Zs5 Zxm Z3h
def Zh1:Ctx:={ tb:=mkTb T2.tbl,fx:=[(118,[],Z134)],sum:=[],nt:=30,pin:=0,nr:=true,ys:=[] }
theorem Z3i:Sound Tryz.prog 131 (Z133) :=
 Sound.shp (C:=Zh1) (fn:=Tryz.f131) (by kernel_rfl) (c:=bodyOf Tryz.f131) (by kernel_rfl) (by decide) (ctxOK mixed tbl_ok rfl ⟨Z3k,trivial⟩ trivial) (SumOK.of trivial) (by kernel_rfl) Zs5 Zxm rfl (by decide) (by decide) rfl (by decide) rfl Z3h (fun x=>by kernel_rfl)
abbrev Zop:Shape:={ sl:=[(0,(.ptr 0 [])),(52,(.hole (.slice y5))),(53,(.hole (.int .i64))),(54,(.hole (.int .i64)))],bl:=bl_2,ts:=[(.slice y5),(.int .i64),(.int .i64),y39,y4,y18,y41,y19,y26,y27],pin:=1 }
abbrev Zmq:List (ETag × Shape):=[(.exit 0,{ sl:=[],bl:=bl_2,ts:=ts_11,pin:=1 })]
def Zbj (x:(List (T7) × Int × Int × T47 × (Int × Int) × List (T17) × List T43 × List (T18) × List T29 × List (T20))):Option ((List (T7) × Int × Int × T47 × (Int × Int) × List (T17) × List T43 × List (T18) × List T29 × List (T20)) ⊕ (T57)) :=
 bif (decide (x.2.2.1 < x.2.1)) then
 bif (inb x.2.2.1 (List.length x.1)) then
 (Z33 ((getAt ((0:Int),(0:Int),(0:Int)) x.1 (toN x.2.2.1)).1,(getAt ((0:Int),(0:Int),(0:Int)) x.1 (toN x.2.2.1)).2.2,x.2.2.2.1,x.2.2.2.2.1,x.2.2.2.2.2.1,x.2.2.2.2.2.2.1,x.2.2.2.2.2.2.2.1,x.2.2.2.2.2.2.2.2.1,x.2.2.2.2.2.2.2.2.2)).bind fun r18 =>
 some (.inl (x.1,x.2.1,(IntKind.wrap .i64 (x.2.2.1+(1:Int))),r18.1,r18.2.1,r18.2.2.1,r18.2.2.2.1,r18.2.2.2.2.1,r18.2.2.2.2.2.1,r18.2.2.2.2.2.2))
 else
 none
 else
 some (.inr (x.2.2.2.1,x.2.2.2.2.1,x.2.2.2.2.2.1,x.2.2.2.2.2.2.1,x.2.2.2.2.2.2.2.1,x.2.2.2.2.2.2.2.2.1,x.2.2.2.2.2.2.2.2.2))
def Zg9:Ctx:={ tb:=mkTb T2.tbl,fx:=[(131,[],Z133),(40,[],Z12x),(120,[],Z12e),(130,[],Z12w)],sum:=[],nt:=65,pin:=1,nr:=true,ys:=[] }
theorem Zbk:CSound Tryz.prog ⟨65,1,true⟩ (.loop (loopOf 9 Tryz.f72)) (Yat Zop Zmq (loop Zbj)) :=
 Y89 (C:=Zg9) (ctxOK mixed tbl_ok rfl ⟨Z3i,Z36,Z23,Z34,trivial⟩ trivial) (SumOK.of trivial) Zop Zmq rfl rfl Zbj (fun x=>by kernel_rfl)
abbrev Zrf:Shape:={ sl:=sl_26,bl:=bl_2,ts:=ts_14,pin:=0 }
abbrev Zww:Shape:={ sl:=[],bl:=bl_2,ts:=ts_11,pin:=1 }
def Z20 (x:T60):Option T57 :=
 bif (inb x.2.1.2.1 (List.length x.2.2.2.2.2.2.2.1)) then
 (Z3h ((getAt ((0:Int),(0:Int),([]:List T7)) x.2.2.2.2.2.2.2.1 (toN x.2.1.2.1)),x.1.1)).bind fun r14 =>
 bif (r14.2.2 != (0:Int)) then
 some (x.2.2.1,(x.2.2.2.1.1,(3:Int)),x.2.2.2.2.1,x.2.2.2.2.2.1,x.2.2.2.2.2.2.1,x.2.2.2.2.2.2.2.1,x.2.2.2.2.2.2.2.2)
 else
 bif (inb x.2.1.2.1 (List.length x.2.2.2.2.2.2.2.1)) then
 (Z35 (x.1.1,(14:Int),x.2.1.2.1,(0:Int),(Int.negSucc 0),x.2.2.1,x.2.2.2.1,x.2.2.2.2.1,x.2.2.2.2.2.1,x.2.2.2.2.2.2.1,(List.set x.2.2.2.2.2.2.2.1 (toN x.2.1.2.1) r14.1),x.2.2.2.2.2.2.2.2)).bind fun r15 =>
 (Z22 (x.1.1,r15.2.1,r15.2.2.1,r15.2.2.2.1,r15.2.2.2.2.1,r15.2.2.2.2.2.1,r15.2.2.2.2.2.2.1,r15.2.2.2.2.2.2.2)).bind fun r16 =>
 (loop Zbj (r14.2.1,(((List.length r14.2.1):Nat):Int),(0:Int),r16.1,r16.2.1,r16.2.2.1,r16.2.2.2.1,r16.2.2.2.2.1,r16.2.2.2.2.2.1,r16.2.2.2.2.2.2)).bind fun r17 =>
 some (r17.1,r17.2.1,r17.2.2.1,r17.2.2.2.1,r17.2.2.2.2.1,r17.2.2.2.2.2.1,r17.2.2.2.2.2.2)
 else
 none
 else
 none
abbrev Z12d:=Spec.shp Zrf Zww Z20
def Zg8:Ctx:={ tb:=mkTb T2.tbl,fx:=[(131,[],Z133),(40,[],Z12x),(120,[],Z12e),(130,[],Z12w)],sum:=[(0,9,Yat Zop Zmq (loop Zbj))],nt:=65,pin:=1,nr:=true,ys:=[] }
theorem Z21:Sound Tryz.prog 72 (Z12d) :=
 Sound.shp (C:=Zg8) (fn:=Tryz.f72) (by kernel_rfl) (c:=bodyOf Tryz.f72) (by kernel_rfl) (by decide) (ctxOK mixed tbl_ok rfl ⟨Z3i,Z36,Z23,Z34,trivial⟩ trivial) (SumOK.of ⟨(Yav (d:=.loop (loopOf 9 Tryz.f72)) (by kernel_rfl) Zbk),trivial⟩) (by kernel_rfl) Zrf Zww rfl (by decide) (by decide) rfl (by decide) rfl Z20 (fun x=>by kernel_rfl)
abbrev Zrc:Shape:={ sl:=sl_26,bl:=bl_2,ts:=ts_14,pin:=0 }
abbrev Zwt:Shape:={ sl:=[],bl:=bl_2,ts:=ts_11,pin:=1 }
def Z1u (x:T60):Option T57 :=
 bif ((((List.length x.2.2.2.2.1):Nat):Int) == (8:Int)) then
 some (x.2.2.1,(x.2.2.2.1.1,(4:Int)),x.2.2.2.2.1,x.2.2.2.2.2.1,x.2.2.2.2.2.2.1,x.2.2.2.2.2.2.2.1,x.2.2.2.2.2.2.2.2)
 else
 (Z35 (x.1.1,(1:Int),(((List.length x.2.2.2.2.1):Nat):Int),(0:Int),(Int.negSucc 0),x.2.2.1,x.2.2.2.1,x.2.2.2.2.1,x.2.2.2.2.2.1,x.2.2.2.2.2.2.1,x.2.2.2.2.2.2.2.1,x.2.2.2.2.2.2.2.2)).bind fun r14 =>
 (Z35 ((((List.length x.2.2.2.2.1):Nat):Int),(0:Int),(0:Int),(0:Int),r14.1,r14.2.1,r14.2.2.1,r14.2.2.2.1,r14.2.2.2.2.1,r14.2.2.2.2.2.1,r14.2.2.2.2.2.2.1,r14.2.2.2.2.2.2.2)).bind fun r15 =>
 bif (fits ((List.length r15.2.2.2.1)+(List.length ((x.2.1.2.1,(0:Int),(0:Int),false) :: ([]:List T17))))) then
 (Z24 ((((List.length x.2.2.2.2.1):Nat):Int),(0:Int),r15.2.1,r15.2.2.1,(r15.2.2.2.1++((x.2.1.2.1,(0:Int),(0:Int),false) :: ([]:List T17))),r15.2.2.2.2.1,r15.2.2.2.2.2.1,r15.2.2.2.2.2.2.1,r15.2.2.2.2.2.2.2)).bind fun r16 =>
 (Z22 (x.1.1,r16.1,r16.2.1,r16.2.2.1,r16.2.2.2.1,r16.2.2.2.2.1,r16.2.2.2.2.2.1,r16.2.2.2.2.2.2)).bind fun r17 =>
 some (r17.1,r17.2.1,r17.2.2.1,r17.2.2.2.1,r17.2.2.2.2.1,r17.2.2.2.2.2.1,r17.2.2.2.2.2.2)
 else
 none
abbrev Z12a:=Spec.shp Zrc Zwt Z1u
def Zg4:Ctx:={ tb:=mkTb T2.tbl,fx:=[(40,[],Z12x),(41,[],Z12f),(120,[],Z12e)],sum:=[],nt:=50,pin:=1,nr:=true,ys:=[] }
theorem Z1v:Sound Tryz.prog 73 (Z12a) :=
 Sound.shp (C:=Zg4) (fn:=Tryz.f73) (by kernel_rfl) (c:=bodyOf Tryz.f73) (by kernel_rfl) (by decide) (ctxOK mixed tbl_ok rfl ⟨Z36,Z25,Z23,trivial⟩ trivial) (SumOK.of trivial) (by kernel_rfl) Zrc Zwt rfl (by decide) (by decide) rfl (by decide) rfl Z1u (fun x=>by kernel_rfl)
abbrev Zrq:Shape:={ sl:=sl_26,bl:=bl_2,ts:=ts_14,pin:=0 }
abbrev Zx7:Shape:={ sl:=[],bl:=bl_2,ts:=ts_11,pin:=1 }
def Z2m (x:T60):Option T57 :=
 (Z35 (x.1.1,(16:Int),x.2.1.2.1,(0:Int),(Int.negSucc 0),x.2.2.1,x.2.2.2.1,x.2.2.2.2.1,x.2.2.2.2.2.1,x.2.2.2.2.2.2.1,x.2.2.2.2.2.2.2.1,x.2.2.2.2.2.2.2.2)).bind fun r14 =>
 (Z22 (x.1.1,r14.2.1,r14.2.2.1,r14.2.2.2.1,r14.2.2.2.2.1,r14.2.2.2.2.2.1,r14.2.2.2.2.2.2.1,r14.2.2.2.2.2.2.2)).bind fun r15 =>
 some (r15.1,r15.2.1,r15.2.2.1,r15.2.2.2.1,r15.2.2.2.2.1,r15.2.2.2.2.2.1,r15.2.2.2.2.2.2)
abbrev Z12o:=Spec.shp Zrq Zx7 Z2m
def Zgk:Ctx:={ tb:=mkTb T2.tbl,fx:=[(40,[],Z12x),(120,[],Z12e)],sum:=[],nt:=16,pin:=1,nr:=true,ys:=[] }
theorem Z2n:Sound Tryz.prog 74 (Z12o) :=
 Sound.shp (C:=Zgk) (fn:=Tryz.f74) (by kernel_rfl) (c:=bodyOf Tryz.f74) (by kernel_rfl) (by decide) (ctxOK mixed tbl_ok rfl ⟨Z36,Z23,trivial⟩ trivial) (SumOK.of trivial) (by kernel_rfl) Zrq Zx7 rfl (by decide) (by decide) rfl (by decide) rfl Z2m (fun x=>by kernel_rfl)
abbrev Zs2:Shape:={ sl:=sl_26,bl:=bl_2,ts:=ts_14,pin:=0 }
abbrev Zxj:Shape:={ sl:=[],bl:=bl_2,ts:=ts_11,pin:=1 }
def Z3b (x:T60):Option T57 :=
 (Z35 (x.1.1,(17:Int),x.2.1.2.1,(0:Int),(Int.negSucc 0),x.2.2.1,x.2.2.2.1,x.2.2.2.2.1,x.2.2.2.2.2.1,x.2.2.2.2.2.2.1,x.2.2.2.2.2.2.2.1,x.2.2.2.2.2.2.2.2)).bind fun r14 =>
 (Z22 (x.1.1,r14.2.1,r14.2.2.1,r14.2.2.2.1,r14.2.2.2.2.1,r14.2.2.2.2.2.1,r14.2.2.2.2.2.2.1,r14.2.2.2.2.2.2.2)).bind fun r15 =>
 some (r15.1,r15.2.1,r15.2.2.1,r15.2.2.2.1,r15.2.2.2.2.1,r15.2.2.2.2.2.1,r15.2.2.2.2.2.2)
abbrev Z130:=Spec.shp Zs2 Zxj Z3b
def Zgy:Ctx:={ tb:=mkTb T2.tbl,fx:=[(40,[],Z12x),(120,[],Z12e)],sum:=[],nt:=16,pin:=1,nr:=true,ys:=[] }
theorem Z3c:Sound Tryz.prog 75 (Z130) :=
 Sound.shp (C:=Zgy) (fn:=Tryz.f75) (by kernel_rfl) (c:=bodyOf Tryz.f75) (by kernel_rfl) (by decide) (ctxOK mixed tbl_ok rfl ⟨Z36,Z23,trivial⟩ trivial) (SumOK.of trivial) (by kernel_rfl) Zs2 Zxj rfl (by decide) (by decide) rfl (by decide) rfl Z3b (fun x=>by kernel_rfl)
abbrev Zrj:Shape:={ sl:=sl_26,bl:=bl_2,ts:=ts_14,pin:=0 }
abbrev Zx0:Shape:={ sl:=[],bl:=bl_2,ts:=ts_11,pin:=1 }
def Z28 (x:T60):Option T57 :=
 (Z24 (x.1.1,x.2.1.2.1,x.2.2.1,x.2.2.2.1,x.2.2.2.2.1,x.2.2.2.2.2.1,x.2.2.2.2.2.2.1,x.2.2.2.2.2.2.2.1,x.2.2.2.2.2.2.2.2)).bind fun r14 =>
 some (r14.1,r14.2.1,r14.2.2.1,r14.2.2.2.1,r14.2.2.2.2.1,r14.2.2.2.2.2.1,r14.2.2.2.2.2.2)
abbrev Z12h:=Spec.shp Zrj Zx0 Z28
def Zgd:Ctx:={ tb:=mkTb T2.tbl,fx:=[(41,[],Z12f)],sum:=[],nt:=12,pin:=1,nr:=true,ys:=[] }
theorem Z29:Sound Tryz.prog 76 (Z12h) :=
 Sound.shp (C:=Zgd) (fn:=Tryz.f76) (by kernel_rfl) (c:=bodyOf Tryz.f76) (by kernel_rfl) (by decide) (ctxOK mixed tbl_ok rfl ⟨Z25,trivial⟩ trivial) (SumOK.of trivial) (by kernel_rfl) Zrj Zx0 rfl (by decide) (by decide) rfl (by decide) rfl Z28 (fun x=>by kernel_rfl)
abbrev Zro:Shape:={ sl:=sl_26,bl:=bl_2,ts:=ts_14,pin:=0 }
abbrev Zx5:Shape:={ sl:=[],bl:=bl_2,ts:=ts_11,pin:=1 }
def Z2i (x:T60):Option T57 :=
 bif (inb x.1.1 (List.length x.2.2.2.2.1)) then
 bif (getAt ((0:Int),(0:Int),(0:Int),false) x.2.2.2.2.1 (toN x.1.1)).2.2.2 then
 (Z28 (x.1,x.2.1,x.2.2.1,x.2.2.2.1,x.2.2.2.2.1,x.2.2.2.2.2.1,x.2.2.2.2.2.2.1,x.2.2.2.2.2.2.2.1,x.2.2.2.2.2.2.2.2)).bind fun r14 =>
 some (r14.1,r14.2.1,r14.2.2.1,r14.2.2.2.1,r14.2.2.2.2.1,r14.2.2.2.2.2.1,r14.2.2.2.2.2.2)
 else
 (Z22 (x.1.1,x.2.2.1,x.2.2.2.1,x.2.2.2.2.1,x.2.2.2.2.2.1,x.2.2.2.2.2.2.1,x.2.2.2.2.2.2.2.1,x.2.2.2.2.2.2.2.2)).bind fun r14 =>
 some (r14.1,r14.2.1,r14.2.2.1,r14.2.2.2.1,r14.2.2.2.2.1,r14.2.2.2.2.2.1,r14.2.2.2.2.2.2)
 else
 none
abbrev Z12m:=Spec.shp Zro Zx5 Z2i
def Zgi:Ctx:={ tb:=mkTb T2.tbl,fx:=[(76,[],Z12h),(120,[],Z12e)],sum:=[],nt:=24,pin:=1,nr:=true,ys:=[] }
theorem Z2j:Sound Tryz.prog 77 (Z12m) :=
 Sound.shp (C:=Zgi) (fn:=Tryz.f77) (by kernel_rfl) (c:=bodyOf Tryz.f77) (by kernel_rfl) (by decide) (ctxOK mixed tbl_ok rfl ⟨Z29,Z23,trivial⟩ trivial) (SumOK.of trivial) (by kernel_rfl) Zro Zx5 rfl (by decide) (by decide) rfl (by decide) rfl Z2i (fun x=>by kernel_rfl)
abbrev Zr2:Shape:={ sl:=[(0,(.hole y45)),(1,(.hole y4))],bl:=[],ts:=[y45,y4],pin:=0 }
abbrev Zwj:Shape:={ sl:=[(0,(.hole y45)),(1,(.hole y27)),(2,(.hole (.int .i64)))],bl:=[],ts:=[y45,y27,(.int .i64)],pin:=0 }
def Z1a (x:((T47 × T61) × (Int × Int))):Option ((T47 × T61) × List (T20) × Int) :=
 (Z16 x.1).bind fun r6 =>
 (Z9v (r6,x.2)).bind fun r7 =>
 bif (Bool.not r7) then
 some (((([]:List Int),(0:Int),(0:Int),(0:Int),([]:List T21),([]:List (List T7))),([]:List T17),([]:List (Int × T41)),([]:List T22),([]:List (Int × T14)),(0:Int),(0:Int)),([]:List T20),(4:Int))
 else
 (Z97 x.1.2.1).bind fun r8 =>
 (Z95 x.1.2.2.1).bind fun r9 =>
 (Z99 x.1.2.2.2.1).bind fun r10 =>
 (Z9b x.1.2.2.2.2.1).bind fun r11 =>
 (Z26 (x.2.1,x.1.1,x.1.2.2.2.2.2,r8,r9,r10,r11,([]:List T20))).bind fun r12 =>
 bif (r12.1.1 == (((0:Nat):Nat):Int)) then
 (Z2e (x.2,r12.1,r12.2.1,r12.2.2.1,r12.2.2.2.1,r12.2.2.2.2.1,r12.2.2.2.2.2.1,r12.2.2.2.2.2.2.1,r12.2.2.2.2.2.2.2)).bind fun r13 =>
 (Z2u (r13.1,r13.2.1,r13.2.2.1,r13.2.2.2.1,r13.2.2.2.2.1,r13.2.2.2.2.2.1,r13.2.2.2.2.2.2)).bind fun r14 =>
 some ((r14.1,r14.2.2.1,r14.2.2.2.1,r14.2.2.2.2.1,r14.2.2.2.2.2.1,r14.2.1),r14.2.2.2.2.2.2,(0:Int))
 else
 bif (r12.1.1 == ((((0:Nat)+(1:Nat)):Nat):Int)) then
 (Z2s (x.2,r12.1,r12.2.1,r12.2.2.1,r12.2.2.2.1,r12.2.2.2.2.1,r12.2.2.2.2.2.1,r12.2.2.2.2.2.2.1,r12.2.2.2.2.2.2.2)).bind fun r13 =>
 (Z2u (r13.1,r13.2.1,r13.2.2.1,r13.2.2.2.1,r13.2.2.2.2.1,r13.2.2.2.2.2.1,r13.2.2.2.2.2.2)).bind fun r14 =>
 some ((r14.1,r14.2.2.1,r14.2.2.2.1,r14.2.2.2.2.1,r14.2.2.2.2.2.1,r14.2.1),r14.2.2.2.2.2.2,(0:Int))
 else
 bif (r12.1.1 == (((((0:Nat)+(1:Nat))+(1:Nat)):Nat):Int)) then
 (Z2o (x.2,r12.1,r12.2.1,r12.2.2.1,r12.2.2.2.1,r12.2.2.2.2.1,r12.2.2.2.2.2.1,r12.2.2.2.2.2.2.1,r12.2.2.2.2.2.2.2)).bind fun r13 =>
 (Z2u (r13.1,r13.2.1,r13.2.2.1,r13.2.2.2.1,r13.2.2.2.2.1,r13.2.2.2.2.2.1,r13.2.2.2.2.2.2)).bind fun r14 =>
 some ((r14.1,r14.2.2.1,r14.2.2.2.1,r14.2.2.2.2.1,r14.2.2.2.2.2.1,r14.2.1),r14.2.2.2.2.2.2,(0:Int))
 else
 bif (r12.1.1 == ((((((0:Nat)+(1:Nat))+(1:Nat))+(1:Nat)):Nat):Int)) then
 (Z31 (x.2,r12.1,r12.2.1,r12.2.2.1,r12.2.2.2.1,r12.2.2.2.2.1,r12.2.2.2.2.2.1,r12.2.2.2.2.2.2.1,r12.2.2.2.2.2.2.2)).bind fun r13 =>
 (Z2u (r13.1,r13.2.1,r13.2.2.1,r13.2.2.2.1,r13.2.2.2.2.1,r13.2.2.2.2.2.1,r13.2.2.2.2.2.2)).bind fun r14 =>
 some ((r14.1,r14.2.2.1,r14.2.2.2.1,r14.2.2.2.2.1,r14.2.2.2.2.2.1,r14.2.1),r14.2.2.2.2.2.2,(0:Int))
 else
 bif (r12.1.1 == (((((((0:Nat)+(1:Nat))+(1:Nat))+(1:Nat))+(1:Nat)):Nat):Int)) then
 (Z2q (x.2,r12.1,r12.2.1,r12.2.2.1,r12.2.2.2.1,r12.2.2.2.2.1,r12.2.2.2.2.2.1,r12.2.2.2.2.2.2.1,r12.2.2.2.2.2.2.2)).bind fun r13 =>
 (Z2u (r13.1,r13.2.1,r13.2.2.1,r13.2.2.2.1,r13.2.2.2.2.1,r13.2.2.2.2.2.1,r13.2.2.2.2.2.2)).bind fun r14 =>
 some ((r14.1,r14.2.2.1,r14.2.2.2.1,r14.2.2.2.2.1,r14.2.2.2.2.2.1,r14.2.1),r14.2.2.2.2.2.2,(0:Int))
 else
 bif (r12.1.1 == ((((((((0:Nat)+(1:Nat))+(1:Nat))+(1:Nat))+(1:Nat))+(1:Nat)):Nat):Int)) then
 (Z2a (x.2,r12.1,r12.2.1,r12.2.2.1,r12.2.2.2.1,r12.2.2.2.2.1,r12.2.2.2.2.2.1,r12.2.2.2.2.2.2.1,r12.2.2.2.2.2.2.2)).bind fun r13 =>
 (Z2u (r13.1,r13.2.1,r13.2.2.1,r13.2.2.2.1,r13.2.2.2.2.1,r13.2.2.2.2.2.1,r13.2.2.2.2.2.2)).bind fun r14 =>
 some ((r14.1,r14.2.2.1,r14.2.2.2.1,r14.2.2.2.2.1,r14.2.2.2.2.2.1,r14.2.1),r14.2.2.2.2.2.2,(0:Int))
 else
 bif (r12.1.1 == (((((((((0:Nat)+(1:Nat))+(1:Nat))+(1:Nat))+(1:Nat))+(1:Nat))+(1:Nat)):Nat):Int)) then
 (Z37 (x.2,r12.1,r12.2.1,r12.2.2.1,r12.2.2.2.1,r12.2.2.2.2.1,r12.2.2.2.2.2.1,r12.2.2.2.2.2.2.1,r12.2.2.2.2.2.2.2)).bind fun r13 =>
 (Z2u (r13.1,r13.2.1,r13.2.2.1,r13.2.2.2.1,r13.2.2.2.2.1,r13.2.2.2.2.2.1,r13.2.2.2.2.2.2)).bind fun r14 =>
 some ((r14.1,r14.2.2.1,r14.2.2.2.1,r14.2.2.2.2.1,r14.2.2.2.2.2.1,r14.2.1),r14.2.2.2.2.2.2,(0:Int))
 else
 bif (r12.1.1 == ((((((((((0:Nat)+(1:Nat))+(1:Nat))+(1:Nat))+(1:Nat))+(1:Nat))+(1:Nat))+(1:Nat)):Nat):Int)) then
 (Z1w (x.2,r12.1,r12.2.1,r12.2.2.1,r12.2.2.2.1,r12.2.2.2.2.1,r12.2.2.2.2.2.1,r12.2.2.2.2.2.2.1,r12.2.2.2.2.2.2.2)).bind fun r13 =>
 (Z2u (r13.1,r13.2.1,r13.2.2.1,r13.2.2.2.1,r13.2.2.2.2.1,r13.2.2.2.2.2.1,r13.2.2.2.2.2.2)).bind fun r14 =>
 some ((r14.1,r14.2.2.1,r14.2.2.2.1,r14.2.2.2.2.1,r14.2.2.2.2.2.1,r14.2.1),r14.2.2.2.2.2.2,(0:Int))
 else
 bif (r12.1.1 == (((((((((((0:Nat)+(1:Nat))+(1:Nat))+(1:Nat))+(1:Nat))+(1:Nat))+(1:Nat))+(1:Nat))+(1:Nat)):Nat):Int)) then
 (Z20 (x.2,r12.1,r12.2.1,r12.2.2.1,r12.2.2.2.1,r12.2.2.2.2.1,r12.2.2.2.2.2.1,r12.2.2.2.2.2.2.1,r12.2.2.2.2.2.2.2)).bind fun r13 =>
 (Z2u (r13.1,r13.2.1,r13.2.2.1,r13.2.2.2.1,r13.2.2.2.2.1,r13.2.2.2.2.2.1,r13.2.2.2.2.2.2)).bind fun r14 =>
 some ((r14.1,r14.2.2.1,r14.2.2.2.1,r14.2.2.2.2.1,r14.2.2.2.2.2.1,r14.2.1),r14.2.2.2.2.2.2,(0:Int))
 else
 bif (r12.1.1 == ((((((((((((0:Nat)+(1:Nat))+(1:Nat))+(1:Nat))+(1:Nat))+(1:Nat))+(1:Nat))+(1:Nat))+(1:Nat))+(1:Nat)):Nat):Int)) then
 (Z1u (x.2,r12.1,r12.2.1,r12.2.2.1,r12.2.2.2.1,r12.2.2.2.2.1,r12.2.2.2.2.2.1,r12.2.2.2.2.2.2.1,r12.2.2.2.2.2.2.2)).bind fun r13 =>
 (Z2u (r13.1,r13.2.1,r13.2.2.1,r13.2.2.2.1,r13.2.2.2.2.1,r13.2.2.2.2.2.1,r13.2.2.2.2.2.2)).bind fun r14 =>
 some ((r14.1,r14.2.2.1,r14.2.2.2.1,r14.2.2.2.2.1,r14.2.2.2.2.2.1,r14.2.1),r14.2.2.2.2.2.2,(0:Int))
 else
 bif (r12.1.1 == (((((((((((((0:Nat)+(1:Nat))+(1:Nat))+(1:Nat))+(1:Nat))+(1:Nat))+(1:Nat))+(1:Nat))+(1:Nat))+(1:Nat))+(1:Nat)):Nat):Int)) then
 (Z2m (x.2,r12.1,r12.2.1,r12.2.2.1,r12.2.2.2.1,r12.2.2.2.2.1,r12.2.2.2.2.2.1,r12.2.2.2.2.2.2.1,r12.2.2.2.2.2.2.2)).bind fun r13 =>
 (Z2u (r13.1,r13.2.1,r13.2.2.1,r13.2.2.2.1,r13.2.2.2.2.1,r13.2.2.2.2.2.1,r13.2.2.2.2.2.2)).bind fun r14 =>
 some ((r14.1,r14.2.2.1,r14.2.2.2.1,r14.2.2.2.2.1,r14.2.2.2.2.2.1,r14.2.1),r14.2.2.2.2.2.2,(0:Int))
 else
 bif (r12.1.1 == ((((((((((((((0:Nat)+(1:Nat))+(1:Nat))+(1:Nat))+(1:Nat))+(1:Nat))+(1:Nat))+(1:Nat))+(1:Nat))+(1:Nat))+(1:Nat))+(1:Nat)):Nat):Int)) then
 (Z3b (x.2,r12.1,r12.2.1,r12.2.2.1,r12.2.2.2.1,r12.2.2.2.2.1,r12.2.2.2.2.2.1,r12.2.2.2.2.2.2.1,r12.2.2.2.2.2.2.2)).bind fun r13 =>
 (Z2u (r13.1,r13.2.1,r13.2.2.1,r13.2.2.2.1,r13.2.2.2.2.1,r13.2.2.2.2.2.1,r13.2.2.2.2.2.2)).bind fun r14 =>
 some ((r14.1,r14.2.2.1,r14.2.2.2.1,r14.2.2.2.2.1,r14.2.2.2.2.2.1,r14.2.1),r14.2.2.2.2.2.2,(0:Int))
 else
 bif (r12.1.1 == (((((((((((((((0:Nat)+(1:Nat))+(1:Nat))+(1:Nat))+(1:Nat))+(1:Nat))+(1:Nat))+(1:Nat))+(1:Nat))+(1:Nat))+(1:Nat))+(1:Nat))+(1:Nat)):Nat):Int)) then
 (Z28 (x.2,r12.1,r12.2.1,r12.2.2.1,r12.2.2.2.1,r12.2.2.2.2.1,r12.2.2.2.2.2.1,r12.2.2.2.2.2.2.1,r12.2.2.2.2.2.2.2)).bind fun r13 =>
 (Z2u (r13.1,r13.2.1,r13.2.2.1,r13.2.2.2.1,r13.2.2.2.2.1,r13.2.2.2.2.2.1,r13.2.2.2.2.2.2)).bind fun r14 =>
 some ((r14.1,r14.2.2.1,r14.2.2.2.1,r14.2.2.2.2.1,r14.2.2.2.2.2.1,r14.2.1),r14.2.2.2.2.2.2,(0:Int))
 else
 bif (r12.1.1 == ((((((((((((((((0:Nat)+(1:Nat))+(1:Nat))+(1:Nat))+(1:Nat))+(1:Nat))+(1:Nat))+(1:Nat))+(1:Nat))+(1:Nat))+(1:Nat))+(1:Nat))+(1:Nat))+(1:Nat)):Nat):Int)) then
 (Z2i (x.2,r12.1,r12.2.1,r12.2.2.1,r12.2.2.2.1,r12.2.2.2.2.1,r12.2.2.2.2.2.1,r12.2.2.2.2.2.2.1,r12.2.2.2.2.2.2.2)).bind fun r13 =>
 (Z2u (r13.1,r13.2.1,r13.2.2.1,r13.2.2.2.1,r13.2.2.2.2.1,r13.2.2.2.2.2.1,r13.2.2.2.2.2.2)).bind fun r14 =>
 some ((r14.1,r14.2.2.1,r14.2.2.2.1,r14.2.2.2.2.1,r14.2.2.2.2.2.1,r14.2.1),r14.2.2.2.2.2.2,(0:Int))
 else
 none
abbrev Z120:=Spec.shp Zr2 Zwj Z1a
def Zfq:Ctx:={ tb:=mkTb T2.tbl,fx:=[(22,[],Z11y),(59,[],Z169),(60,[],Z15x),(61,[],Z15w),(62,[],Z15y),(63,[],Z15z),(78,[],Z12g),(64,[],Z12k),(42,[],Z12s),(65,[],Z12r),(66,[],Z12p),(67,[],Z12v),(68,[],Z12q),(69,[],Z12i),(70,[],Z12y),(71,[],Z12b),(72,[],Z12d),(73,[],Z12a),(74,[],Z12o),(75,[],Z130),(76,[],Z12h),(77,[],Z12m)],sum:=[],nt:=70,pin:=0,nr:=true,ys:=[] }
theorem Z1b:Sound Tryz.prog 23 (Z120) :=
 Sound.shp (C:=Zfq) (fn:=Tryz.f23) (by kernel_rfl) (c:=bodyOf Tryz.f23) (by kernel_rfl) (by decide) (ctxOK mixed tbl_ok rfl ⟨Z17,Z9w,Z98,Z96,Z9a,Z9c,Z27,Z2f,Z30,Z2t,Z2p,Z32,Z2r,Z2b,Z38,Z1x,Z21,Z1v,Z2n,Z3c,Z29,Z2j,trivial⟩ trivial) (SumOK.of trivial) (by kernel_rfl) Zr2 Zwj rfl (by decide) (by decide) rfl (by decide) rfl Z1a (fun x=>by kernel_rfl)
abbrev Zsc:Shape:={ sl:=[],bl:=[],ts:=[],pin:=0 }
abbrev Zxt:Shape:={ sl:=sl_6,bl:=[],ts:=[y39],pin:=0 }
def Z3v (x:Unit):Option (T47) :=
 some (((0:Int) :: ([]:List Int)),(0:Int),(0:Int),(0:Int),([]:List T21),((((9:Int),(1:Int),(0:Int)) :: (((2:Int),(0:Int),(0:Int)) :: ([]:List T7))) :: ((((1:Int),(0:Int),(0:Int)) :: ([]:List T7)) :: ([]:List (List T7)))))
abbrev Z13a:=Spec.shp Zsc Zxt Z3v
def Zhf:Ctx:={ tb:=mkTb T2.tbl,fx:=[],sum:=[],nt:=9,pin:=0,nr:=true,ys:=[] }
theorem Z3w:Sound Tryz.prog 44 (Z13a) :=
 Sound.shp (C:=Zhf) (fn:=Tryz.f44) (by kernel_rfl) (c:=bodyOf Tryz.f44) (by kernel_rfl) (by decide) (ctxOK mixed tbl_ok rfl trivial trivial) (SumOK.of trivial) (by kernel_rfl) Zsc Zxt rfl (by decide) (by decide) rfl (by decide) rfl Z3v (fun x=>by kernel_rfl)
abbrev Zov:Shape:={ sl:=[(1,(.ptr 0 [])),(2,(.hole y27)),(3,(.hole (.int .i64))),(4,(.sl 1)),(19,(.sl 2)),(20,(.hole (.int .i64))),(21,(.hole (.int .i64)))],bl:=[.var (.hole y45),.row (.int .i64),.row (.int .i64)],ts:=[y27,(.int .i64),(.int .i64),(.int .i64),y45,y0,y0],pin:=0 }
abbrev Zmw:List (ETag × Shape):=[(.ret,{ sl:=sl_1,bl:=[],ts:=ts_1,pin:=0 }),(.exit 0,{ sl:=[(1,(.ptr 0 [])),(2,(.hole y27)),(3,(.hole (.int .i64))),(4,(.sl 1))],bl:=[.var (.hole y45),.row (.int .i64)],ts:=[y27,(.int .i64),y45,y0],pin:=0 })]
def Zbv (x:(List (T20) × Int × Int × Int × (T47 × T61) × List Int × List Int)):Option ((List (T20) × Int × Int × Int × (T47 × T61) × List Int × List Int) ⊕ ((Bool) ⊕ (List (T20) × Int × (T47 × T61) × List Int))) :=
 bif (decide (x.2.2.2.1 < x.2.2.1)) then
 bif (inb x.2.2.2.1 (List.length x.2.2.2.2.2.2)) then
 (Z1a (x.2.2.2.2.1,(getAt (0:Int) x.2.2.2.2.2.2 (toN x.2.2.2.1)),(Int.negSucc 0))).bind fun r10 =>
 bif (r10.2.2 != (0:Int)) then
 some (.inr (.inl false))
 else
 bif (fits ((List.length ([]:List T20))+(List.length x.1))) then
 bif (fits ((List.length (([]:List T20)++x.1))+(List.length r10.2.1))) then
 some (.inl (((([]:List T20)++x.1)++r10.2.1),x.2.1,x.2.2.1,(IntKind.wrap .i64 (x.2.2.2.1+(1:Int))),r10.1,x.2.2.2.2.2.1,x.2.2.2.2.2.2))
 else
 none
 else
 none
 else
 none
 else
 some (.inr (.inr (x.1,x.2.1,x.2.2.2.2.1,x.2.2.2.2.2.1)))
def Zhb:Ctx:={ tb:=mkTb T2.tbl,fx:=[(44,[],Z13a),(14,[],Z11z),(23,[],Z120)],sum:=[],nt:=71,pin:=0,nr:=true,ys:=[] }
theorem Zbw:CSound Tryz.prog ⟨71,0,true⟩ (.loop (loopOf 5 Tryz.f16)) (Yat Zov Zmw (loop Zbv)) :=
 Y89 (C:=Zhb) (ctxOK mixed tbl_ok rfl ⟨Z3w,Z19,Z1b,trivial⟩ trivial) (SumOK.of trivial) Zov Zmw rfl rfl Zbv (fun x=>by kernel_rfl)
abbrev Zou:Shape:={ sl:=[(4,(.sl 0)),(56,(.hole y27)),(57,(.hole (.int .i64))),(58,(.hole (.int .i64)))],bl:=bl_14,ts:=[y27,(.int .i64),(.int .i64),y0],pin:=0 }
abbrev Zmv:List (ETag × Shape):=[(.ret,{ sl:=sl_1,bl:=[],ts:=ts_1,pin:=0 }),(.exit 2,{ sl:=[],bl:=[],ts:=[],pin:=0 })]
def Zbt (x:(List (T20) × Int × Int × List Int)):Option ((List (T20) × Int × Int × List Int) ⊕ ((Bool) ⊕ Unit)) :=
 bif (decide (x.2.2.1 < x.2.1)) then
 bif (inb x.2.2.1 (List.length x.1)) then
 bif (inb x.2.2.1 (List.length x.2.2.2)) then
 bif ((getAt ((0:Int),(0:Int),(0:Int),(0:Int),(0:Int)) x.1 (toN x.2.2.1)).2.1 != (getAt (0:Int) x.2.2.2 (toN x.2.2.1))) then
 some (.inr (.inl false))
 else
 some (.inl (x.1,x.2.1,(IntKind.wrap .i64 (x.2.2.1+(1:Int))),x.2.2.2))
 else
 none
 else
 none
 else
 some (.inr (.inr ()))
def Zha:Ctx:={ tb:=mkTb T2.tbl,fx:=[(44,[],Z13a),(14,[],Z11z),(23,[],Z120)],sum:=[(0,5,Yat Zov Zmw (loop Zbv))],nt:=71,pin:=0,nr:=true,ys:=[] }
theorem Zbu:CSound Tryz.prog ⟨71,0,true⟩ (.loop (loopOf 15 Tryz.f16)) (Yat Zou Zmv (loop Zbt)) :=
 Y89 (C:=Zha) (ctxOK mixed tbl_ok rfl ⟨Z3w,Z19,Z1b,trivial⟩ trivial) (SumOK.of ⟨(Yau (by kernel_rfl)),trivial⟩) Zou Zmv rfl rfl Zbt (fun x=>by kernel_rfl)
abbrev Zsa:Shape:={ sl:=[],bl:=[],ts:=[],pin:=0 }
abbrev Zxr:Shape:={ sl:=sl_1,bl:=[],ts:=ts_1,pin:=0 }
def Z3r (x:Unit):Option (Bool) :=
 (Z3v ()).bind fun r7 =>
 (Z18 r7).bind fun r8 =>
 (loop Zbv (r8.2.1,r8.2.2,(((List.length ((0:Int) :: ((0:Int) :: ((1:Int) :: ([]:List Int))))):Nat):Int),(0:Int),r8.1,((0:Int) :: ((1:Int) :: ((0:Int) :: ((4:Int) :: ((2:Int) :: ((5:Int) :: ((3:Int) :: ([]:List Int)))))))),((0:Int) :: ((0:Int) :: ((1:Int) :: ([]:List Int)))))).bind fun r9 =>
 match r9 with
 | .inl y10 =>
 some y10
 | .inr y10 =>
 bif (y10.2.1 != (0:Int)) then
 some false
 else
 bif ((((List.length y10.1):Nat):Int) != (((List.length y10.2.2.2):Nat):Int)) then
 some false
 else
 bif (y10.2.2.1.2.2.2.2.2.2 != (1:Int)) then
 some false
 else
 (loop Zbt (y10.1,(((List.length y10.1):Nat):Int),(0:Int),y10.2.2.2)).bind fun r11 =>
 match r11 with
 | .inl y12 =>
 some y12
 | .inr y12 =>
 some true
abbrev Z138:=Spec.shp Zsa Zxr Z3r
def Zh9:Ctx:={ tb:=mkTb T2.tbl,fx:=[(44,[],Z13a),(14,[],Z11z),(23,[],Z120)],sum:=[(0,5,Yat Zov Zmw (loop Zbv)),(0,15,Yat Zou Zmv (loop Zbt))],nt:=71,pin:=0,nr:=true,ys:=[] }
theorem Z3s:Sound Tryz.prog 16 (Z138) :=
 Sound.shp (C:=Zh9) (fn:=Tryz.f16) (by kernel_rfl) (c:=bodyOf Tryz.f16) (by kernel_rfl) (by decide) (ctxOK mixed tbl_ok rfl ⟨Z3w,Z19,Z1b,trivial⟩ trivial) (SumOK.of ⟨(Yav (d:=.loop (loopOf 5 Tryz.f16)) (by kernel_rfl) Zbw),(Yav (d:=.loop (loopOf 15 Tryz.f16)) (by kernel_rfl) Zbu),trivial⟩) (by kernel_rfl) Zsa Zxr rfl (by decide) (by decide) rfl (by decide) rfl Z3r (fun x=>by kernel_rfl)
abbrev Zox:Shape:={ sl:=sl_32,bl:=bl_18,ts:=ts_16,pin:=0 }
abbrev Zmy:List (ETag × Shape):=[(.exit 0,{ sl:=[(1,(.ptr 0 [])),(2,(.ptr 1 [])),(3,(.sl 2))],bl:=bl_18,ts:=[y39,(.int .i64),(.int .i64),(.int .i64),(.slice y9)],pin:=0 })]
def Zbz (x:T55):Option (T55 ⊕ (T47 × Int × Int × Int × List (T12))) :=
 bif (decide (x.2.2.1 < x.2.1)) then
 bif (inb x.2.2.1 (List.length x.1)) then
 bif (sub3 (0:Int) (Min.min (((List.length (getAt (([]:List T0),false) x.1 (toN x.2.2.1)).1):Nat):Int) (6:Int)) (List.length (getAt (([]:List T0),false) x.1 (toN x.2.2.1)).1)) then
 bif (fits ((List.length x.2.2.2.2.2.2.2)+(List.length (((cut (getAt (([]:List T0),false) x.1 (toN x.2.2.1)).1 (toN (0:Int)) ((toN (Min.min (((List.length (getAt (([]:List T0),false) x.1 (toN x.2.2.1)).1):Nat):Int) (6:Int))) - (toN (0:Int)))),(getAt (([]:List T0),false) x.1 (toN x.2.2.1)).2) :: ([]:List T21))))) then
 some (.inl (x.1,x.2.1,(IntKind.wrap .i64 (x.2.2.1+(1:Int))),x.2.2.2.1,x.2.2.2.2.1,x.2.2.2.2.2.1,x.2.2.2.2.2.2.1,(x.2.2.2.2.2.2.2++(((cut (getAt (([]:List T0),false) x.1 (toN x.2.2.1)).1 (toN (0:Int)) ((toN (Min.min (((List.length (getAt (([]:List T0),false) x.1 (toN x.2.2.1)).1):Nat):Int) (6:Int))) - (toN (0:Int)))),(getAt (([]:List T0),false) x.1 (toN x.2.2.1)).2) :: ([]:List T21)))))
 else
 none
 else
 none
 else
 none
 else
 some (.inr (x.2.2.2.1,x.2.2.2.2.1,x.2.2.2.2.2.1,x.2.2.2.2.2.2.1,x.2.2.2.2.2.2.2))
def Zhe:Ctx:={ tb:=mkTb T2.tbl,fx:=[],sum:=[],nt:=68,pin:=0,nr:=true,ys:=[] }
theorem Zc0:CSound Tryz.prog ⟨68,0,true⟩ (.loop (loopOf 5 Tryz.f13)) (Yat Zox Zmy (loop Zbz)) :=
 Y89 (C:=Zhe) (ctxOK mixed tbl_ok rfl trivial trivial) (SumOK.of trivial) Zox Zmy rfl rfl Zbz (fun x=>by kernel_rfl)
abbrev Zow:Shape:={ sl:=sl_33,bl:=bl_19,ts:=ts_17,pin:=0 }
abbrev Zmx:List (ETag × Shape):=[(.exit 2,{ sl:=[(1,(.ptr 0 [])),(2,(.ptr 1 [])),(3,(.sl 2)),(6,(.sl 3))],bl:=bl_19,ts:=[y39,(.int .i64),(.int .i64),(.int .i64),(.slice y9),y10],pin:=0 })]
def Zbx (x:T59):Option (T59 ⊕ (T47 × Int × Int × Int × List (T12) × List (List (T7)))) :=
 bif (decide (x.2.2.1 < x.2.1)) then
 bif (inb x.2.2.1 (List.length x.1)) then
 bif (sub3 (0:Int) (Min.min (((List.length (getAt ([]:List T7) x.1 (toN x.2.2.1))):Nat):Int) (30:Int)) (List.length (getAt ([]:List T7) x.1 (toN x.2.2.1)))) then
 bif (fits ((List.length x.2.2.2.2.2.2.2.2)+(List.length ((cut (getAt ([]:List T7) x.1 (toN x.2.2.1)) (toN (0:Int)) ((toN (Min.min (((List.length (getAt ([]:List T7) x.1 (toN x.2.2.1))):Nat):Int) (30:Int))) - (toN (0:Int)))) :: ([]:List (List T7)))))) then
 some (.inl (x.1,x.2.1,(IntKind.wrap .i64 (x.2.2.1+(1:Int))),x.2.2.2.1,x.2.2.2.2.1,x.2.2.2.2.2.1,x.2.2.2.2.2.2.1,x.2.2.2.2.2.2.2.1,(x.2.2.2.2.2.2.2.2++((cut (getAt ([]:List T7) x.1 (toN x.2.2.1)) (toN (0:Int)) ((toN (Min.min (((List.length (getAt ([]:List T7) x.1 (toN x.2.2.1))):Nat):Int) (30:Int))) - (toN (0:Int)))) :: ([]:List (List T7))))))
 else
 none
 else
 none
 else
 none
 else
 some (.inr (x.2.2.2.1,x.2.2.2.2.1,x.2.2.2.2.2.1,x.2.2.2.2.2.2.1,x.2.2.2.2.2.2.2.1,x.2.2.2.2.2.2.2.2))
def Zhd:Ctx:={ tb:=mkTb T2.tbl,fx:=[],sum:=[(0,5,Yat Zox Zmy (loop Zbz))],nt:=68,pin:=0,nr:=true,ys:=[] }
theorem Zby:CSound Tryz.prog ⟨68,0,true⟩ (.loop (loopOf 12 Tryz.f13)) (Yat Zow Zmx (loop Zbx)) :=
 Y89 (C:=Zhd) (ctxOK mixed tbl_ok rfl trivial trivial) (SumOK.of ⟨(Yau (by kernel_rfl)),trivial⟩) Zow Zmx rfl rfl Zbx (fun x=>by kernel_rfl)
abbrev Zsb:Shape:={ sl:=sl_6,bl:=[],ts:=[y39],pin:=0 }
abbrev Zxs:Shape:={ sl:=sl_6,bl:=[],ts:=[y39],pin:=0 }
def Z3t (x:(T47)):Option (T47) :=
 bif (sub3 (0:Int) (Min.min (((List.length x.1):Nat):Int) (6:Int)) (List.length x.1)) then
 bif (sub3 (0:Int) (Min.min (((List.length x.2.2.2.2.1):Nat):Int) (6:Int)) (List.length x.2.2.2.2.1)) then
 (loop Zbz ((cut x.2.2.2.2.1 (toN (0:Int)) ((toN (Min.min (((List.length x.2.2.2.2.1):Nat):Int) (6:Int))) - (toN (0:Int)))),(((List.length (cut x.2.2.2.2.1 (toN (0:Int)) ((toN (Min.min (((List.length x.2.2.2.2.1):Nat):Int) (6:Int))) - (toN (0:Int))))):Nat):Int),(0:Int),((cut x.1 (toN (0:Int)) ((toN (Min.min (((List.length x.1):Nat):Int) (6:Int))) - (toN (0:Int)))),x.2),(0:Int),(0:Int),(0:Int),([]:List T21))).bind fun r2 =>
 bif (sub3 (0:Int) (Min.min (((List.length r2.1.2.2.2.2.2):Nat):Int) (8:Int)) (List.length r2.1.2.2.2.2.2)) then
 (loop Zbx ((cut r2.1.2.2.2.2.2 (toN (0:Int)) ((toN (Min.min (((List.length r2.1.2.2.2.2.2):Nat):Int) (8:Int))) - (toN (0:Int)))),(((List.length (cut r2.1.2.2.2.2.2 (toN (0:Int)) ((toN (Min.min (((List.length r2.1.2.2.2.2.2):Nat):Int) (8:Int))) - (toN (0:Int))))):Nat):Int),(0:Int),r2.1,r2.2.1,r2.2.2.1,r2.2.2.2.1,r2.2.2.2.2,([]:List (List T7)))).bind fun r3 =>
 some (r3.1.1,r3.1.2.1,r3.1.2.2.1,r3.1.2.2.2.1,r3.2.2.2.2.1,r3.2.2.2.2.2)
 else
 none
 else
 none
 else
 none
abbrev Z139:=Spec.shp Zsb Zxs Z3t
def Zhc:Ctx:={ tb:=mkTb T2.tbl,fx:=[],sum:=[(0,5,Yat Zox Zmy (loop Zbz)),(0,12,Yat Zow Zmx (loop Zbx))],nt:=68,pin:=0,nr:=true,ys:=[] }
theorem Z3u:Sound Tryz.prog 13 (Z139) :=
 Sound.shp (C:=Zhc) (fn:=Tryz.f13) (by kernel_rfl) (c:=bodyOf Tryz.f13) (by kernel_rfl) (by decide) (ctxOK mixed tbl_ok rfl trivial trivial) (SumOK.of ⟨(Yav (d:=.loop (loopOf 5 Tryz.f13)) (by kernel_rfl) Zc0),(Yav (d:=.loop (loopOf 12 Tryz.f13)) (by kernel_rfl) Zby),trivial⟩) (by kernel_rfl) Zsb Zxs rfl (by decide) (by decide) rfl (by decide) rfl Z3t (fun x=>by kernel_rfl)
abbrev Zss:Shape:={ sl:=sl_6,bl:=[],ts:=[y39],pin:=0 }
abbrev Zy9:Shape:={ sl:=sl_1,bl:=[],ts:=ts_1,pin:=0 }
def Z4r (x:(T47)):Option (Bool) :=
 bif (decide ((((List.length x.1):Nat):Int) > (4:Int))) then
 some true
 else
 bif (decide (x.2.1 < (0:Int))) then
 some true
 else
 bif (decide (x.2.1 > (2:Int))) then
 some true
 else
 bif (decide (x.2.2.1 < (0:Int))) then
 some true
 else
 bif (decide (x.2.2.1 > (2:Int))) then
 some true
 else
 bif (decide (x.2.2.2.1 < (0:Int))) then
 some true
 else
 bif (decide (x.2.2.2.1 > (4:Int))) then
 some true
 else
 bif (decide ((((List.length x.2.2.2.2.1):Nat):Int) > (4:Int))) then
 some true
 else
 bif (decide ((((List.length x.2.2.2.2.2):Nat):Int) < (1:Int))) then
 some true
 else
 some (decide ((((List.length x.2.2.2.2.2):Nat):Int) > (6:Int)))
abbrev Z13q:=Spec.shp Zss Zy9 Z4r
def Zi8:Ctx:={ tb:=mkTb T2.tbl,fx:=[],sum:=[],nt:=55,pin:=0,nr:=true,ys:=[] }
theorem Z4s:Sound Tryz.prog 157 (Z13q) :=
 Sound.shp (C:=Zi8) (fn:=Tryz.f157) (by kernel_rfl) (c:=bodyOf Tryz.f157) (by kernel_rfl) (by decide) (ctxOK mixed tbl_ok rfl trivial trivial) (SumOK.of trivial) (by kernel_rfl) Zss Zy9 rfl (by decide) (by decide) rfl (by decide) rfl Z4r (fun x=>by kernel_rfl)
abbrev Zpd:Shape:={ sl:=[(1,(.ptr 0 [])),(13,(.hole y0)),(14,(.hole (.int .i64))),(15,(.hole (.int .i64)))],bl:=bl_0,ts:=[y0,(.int .i64),(.int .i64),y39],pin:=0 }
abbrev Zne:List (ETag × Shape):=[(.ret,{ sl:=sl_5,bl:=[],ts:=ts_5,pin:=0 }),(.exit 0,{ sl:=[(1,(.ptr 0 []))],bl:=bl_0,ts:=[y39],pin:=0 })]
def Zcv (x:(List Int × Int × Int × T47)):Option ((List Int × Int × Int × T47) ⊕ ((Int × Int) ⊕ (T47))) :=
 bif (decide (x.2.2.1 < x.2.1)) then
 bif (inb x.2.2.1 (List.length x.1)) then
 bif (decide ((getAt (0:Int) x.1 (toN x.2.2.1)) < (Int.negSucc 0))) then
 some (.inr (.inl ((Int.negSucc 0),(3:Int))))
 else
 bif (decide ((getAt (0:Int) x.1 (toN x.2.2.1)) > (3:Int))) then
 some (.inr (.inl ((Int.negSucc 0),(3:Int))))
 else
 some (.inl (x.1,x.2.1,(IntKind.wrap .i64 (x.2.2.1+(1:Int))),x.2.2.2))
 else
 none
 else
 some (.inr (.inr x.2.2.2))
def Zic:Ctx:={ tb:=mkTb T2.tbl,fx:=[(157,[],Z13q)],sum:=[],nt:=60,pin:=0,nr:=true,ys:=[] }
theorem Zcw:CSound Tryz.prog ⟨60,0,true⟩ (.loop (loopOf 5 Tryz.f97)) (Yat Zpd Zne (loop Zcv)) :=
 Y89 (C:=Zic) (ctxOK mixed tbl_ok rfl ⟨Z4s,trivial⟩ trivial) (SumOK.of trivial) Zpd Zne rfl rfl Zcv (fun x=>by kernel_rfl)
abbrev Zpc:Shape:={ sl:=[(1,(.ptr 0 [])),(6,(.hole (.int .i64))),(27,(.hole (.slice y9))),(28,(.hole (.int .i64))),(29,(.hole (.int .i64))),(40,(.hole (.slice y2))),(41,(.hole (.int .i64))),(42,(.hole (.int .i64)))],bl:=bl_0,ts:=[(.int .i64),(.slice y9),(.int .i64),(.int .i64),(.slice y2),(.int .i64),(.int .i64),y39],pin:=0 }
abbrev Znd:List (ETag × Shape):=[(.ret,{ sl:=sl_5,bl:=[],ts:=ts_5,pin:=0 }),(.exit 4,{ sl:=sl_34,bl:=bl_0,ts:=ts_4,pin:=0 })]
def Zct (x:(Int × List (T12) × Int × Int × List T0 × Int × Int × T47)):Option ((Int × List (T12) × Int × Int × List T0 × Int × Int × T47) ⊕ ((Int × Int) ⊕ T53)) :=
 bif (decide (x.2.2.2.2.2.2.1 < x.2.2.2.2.2.1)) then
 bif (inb x.2.2.2.2.2.2.1 (List.length x.2.2.2.2.1)) then
 bif (decide ((getAt (false,(0:Int)) x.2.2.2.2.1 (toN x.2.2.2.2.2.2.1)).2 < (0:Int))) then
 some (.inr (.inl (x.1,(3:Int))))
 else
 bif (decide ((getAt (false,(0:Int)) x.2.2.2.2.1 (toN x.2.2.2.2.2.2.1)).2 ≥ (((List.length x.2.2.2.2.2.2.2.1):Nat):Int))) then
 some (.inr (.inl (x.1,(3:Int))))
 else
 some (.inl (x.1,x.2.1,x.2.2.1,x.2.2.2.1,x.2.2.2.2.1,x.2.2.2.2.2.1,(IntKind.wrap .i64 (x.2.2.2.2.2.2.1+(1:Int))),x.2.2.2.2.2.2.2))
 else
 none
 else
 some (.inr (.inr (x.2.1,x.2.2.1,x.2.2.2.1,x.2.2.2.2.2.2.2)))
def Zib:Ctx:={ tb:=mkTb T2.tbl,fx:=[(157,[],Z13q)],sum:=[(0,5,Yat Zpd Zne (loop Zcv))],nt:=60,pin:=0,nr:=true,ys:=[] }
theorem Zcu:CSound Tryz.prog ⟨60,0,true⟩ (.loop (loopOf 16 Tryz.f97)) (Yat Zpc Znd (loop Zct)) :=
 Y89 (C:=Zib) (ctxOK mixed tbl_ok rfl ⟨Z4s,trivial⟩ trivial) (SumOK.of ⟨(Yau (by kernel_rfl)),trivial⟩) Zpc Znd rfl rfl Zct (fun x=>by kernel_rfl)
abbrev Zpb:Shape:={ sl:=sl_34,bl:=bl_0,ts:=ts_4,pin:=0 }
abbrev Znc:List (ETag × Shape):=[(.ret,{ sl:=sl_5,bl:=[],ts:=ts_5,pin:=0 }),(.exit 2,{ sl:=[],bl:=[],ts:=[],pin:=0 })]
def Zcr (x:T53):Option (T53 ⊕ ((Int × Int) ⊕ Unit)) :=
 bif (decide (x.2.2.1 < x.2.1)) then
 bif (inb x.2.2.1 (List.length x.1)) then
 bif (decide ((((List.length (getAt (([]:List T0),false) x.1 (toN x.2.2.1)).1):Nat):Int) > (4:Int))) then
 some (.inr (.inl (x.2.2.1,(2:Int))))
 else
 (loop Zct (x.2.2.1,x.1,x.2.1,x.2.2.1,(getAt (([]:List T0),false) x.1 (toN x.2.2.1)).1,(((List.length (getAt (([]:List T0),false) x.1 (toN x.2.2.1)).1):Nat):Int),(0:Int),x.2.2.2)).bind fun r10 =>
 match r10 with
 | .inl y11 =>
 some (.inr (.inl (y11.1,y11.2)))
 | .inr y11 =>
 some (.inl (y11.1,y11.2.1,(IntKind.wrap .i64 (y11.2.2.1+(1:Int))),y11.2.2.2))
 else
 none
 else
 some (.inr (.inr ()))
def Zia:Ctx:={ tb:=mkTb T2.tbl,fx:=[(157,[],Z13q)],sum:=[(0,5,Yat Zpd Zne (loop Zcv)),(0,16,Yat Zpc Znd (loop Zct))],nt:=60,pin:=0,nr:=true,ys:=[] }
theorem Zcs:CSound Tryz.prog ⟨60,0,true⟩ (.loop (loopOf 11 Tryz.f97)) (Yat Zpb Znc (loop Zcr)) :=
 Y89 (C:=Zia) (ctxOK mixed tbl_ok rfl ⟨Z4s,trivial⟩ trivial) (SumOK.of ⟨(Yau (by kernel_rfl)),(Yav (d:=.loop (loopOf 16 Tryz.f97)) (by kernel_rfl) Zcu),trivial⟩) Zpb Znc rfl rfl Zcr (fun x=>by kernel_rfl)
abbrev Zst:Shape:={ sl:=sl_6,bl:=[],ts:=[y39],pin:=0 }
abbrev Zya:Shape:={ sl:=sl_7,bl:=[],ts:=ts_5,pin:=0 }
def Z4t (x:(T47)):Option (Int × Int) :=
 (Z4r x).bind fun r6 =>
 bif r6 then
 some ((Int.negSucc 0),(2:Int))
 else
 (loop Zcv (x.1,(((List.length x.1):Nat):Int),(0:Int),x)).bind fun r7 =>
 match r7 with
 | .inl y8 =>
 some (y8.1,y8.2)
 | .inr y8 =>
 (loop Zcr (y8.2.2.2.2.1,(((List.length y8.2.2.2.2.1):Nat):Int),(0:Int),y8)).bind fun r9 =>
 match r9 with
 | .inl y10 =>
 some (y10.1,y10.2)
 | .inr y10 =>
 some ((Int.negSucc 0),(0:Int))
abbrev Z13r:=Spec.shp Zst Zya Z4t
def Zi9:Ctx:={ tb:=mkTb T2.tbl,fx:=[(157,[],Z13q)],sum:=[(0,5,Yat Zpd Zne (loop Zcv)),(0,16,Yat Zpc Znd (loop Zct)),(0,11,Yat Zpb Znc (loop Zcr))],nt:=60,pin:=0,nr:=true,ys:=[] }
theorem Z4u:Sound Tryz.prog 97 (Z13r) :=
 Sound.shp (C:=Zi9) (fn:=Tryz.f97) (by kernel_rfl) (c:=bodyOf Tryz.f97) (by kernel_rfl) (by decide) (ctxOK mixed tbl_ok rfl ⟨Z4s,trivial⟩ trivial) (SumOK.of ⟨(Yav (d:=.loop (loopOf 5 Tryz.f97)) (by kernel_rfl) Zcw),(Yav (d:=.loop (loopOf 16 Tryz.f97)) (by kernel_rfl) Zcu),(Yav (d:=.loop (loopOf 11 Tryz.f97)) (by kernel_rfl) Zcs),trivial⟩) (by kernel_rfl) Zst Zya rfl (by decide) (by decide) rfl (by decide) rfl Z4t (fun x=>by kernel_rfl)
abbrev Zsq:Shape:={ sl:=[(0,(.hole y39)),(1,(.hole (.int .i64))),(2,(.hole (.slice y5)))],bl:=[],ts:=[y39,(.int .i64),(.slice y5)],pin:=0 }
abbrev Zy7:Shape:={ sl:=sl_2,bl:=[],ts:=ts_2,pin:=0 }
def Z4n (x:(T47 × Int × List (T7))):Option (Int) :=
 bif (decide (x.2.1 ≥ (1:Int))) then
 bif (decide (x.2.1 ≤ (3:Int))) then
 some (((List.length x.1.1):Nat):Int)
 else
 bif (x.2.1 == (4:Int)) then
 some (((List.length x.1.2.2.2.2.1):Nat):Int)
 else
 bif (x.2.1 == (5:Int)) then
 some x.1.2.1
 else
 bif (x.2.1 == (6:Int)) then
 some x.1.2.1
 else
 bif (x.2.1 == (7:Int)) then
 some x.1.2.2.1
 else
 bif (x.2.1 == (8:Int)) then
 some x.1.2.2.1
 else
 bif (x.2.1 == (9:Int)) then
 some (((List.length x.1.2.2.2.2.2):Nat):Int)
 else
 bif (x.2.1 == (10:Int)) then
 some x.1.2.2.2.1
 else
 bif (x.2.1 == (11:Int)) then
 some x.1.2.2.2.1
 else
 bif (decide (x.2.1 ≥ (12:Int))) then
 some (IntKind.wrap .i64 ((((List.length x.2.2):Nat):Int)+(1:Int)))
 else
 some (1:Int)
 else
 bif (x.2.1 == (4:Int)) then
 some (((List.length x.1.2.2.2.2.1):Nat):Int)
 else
 bif (x.2.1 == (5:Int)) then
 some x.1.2.1
 else
 bif (x.2.1 == (6:Int)) then
 some x.1.2.1
 else
 bif (x.2.1 == (7:Int)) then
 some x.1.2.2.1
 else
 bif (x.2.1 == (8:Int)) then
 some x.1.2.2.1
 else
 bif (x.2.1 == (9:Int)) then
 some (((List.length x.1.2.2.2.2.2):Nat):Int)
 else
 bif (x.2.1 == (10:Int)) then
 some x.1.2.2.2.1
 else
 bif (x.2.1 == (11:Int)) then
 some x.1.2.2.2.1
 else
 bif (decide (x.2.1 ≥ (12:Int))) then
 some (IntKind.wrap .i64 ((((List.length x.2.2):Nat):Int)+(1:Int)))
 else
 some (1:Int)
abbrev Z13o:=Spec.shp Zsq Zy7 Z4n
def Zi4:Ctx:={ tb:=mkTb T2.tbl,fx:=[],sum:=[],nt:=55,pin:=0,nr:=true,ys:=[] }
theorem Z4o:Sound Tryz.prog 158 (Z13o) :=
 Sound.shp (C:=Zi4) (fn:=Tryz.f158) (by kernel_rfl) (c:=bodyOf Tryz.f158) (by kernel_rfl) (by decide) (ctxOK mixed tbl_ok rfl trivial trivial) (SumOK.of trivial) (by kernel_rfl) Zsq Zy7 rfl (by decide) (by decide) rfl (by decide) rfl Z4n (fun x=>by kernel_rfl)
abbrev Zsp:Shape:={ sl:=[(0,(.hole y39)),(1,(.hole (.slice y5))),(2,(.hole y5))],bl:=[],ts:=[y39,(.slice y5),y5],pin:=0 }
abbrev Zy6:Shape:={ sl:=sl_2,bl:=[],ts:=ts_2,pin:=0 }
def Z4l (x:(T47 × List (T7) × T7)):Option (Int) :=
 bif (decide (x.2.2.1 < (0:Int))) then
 some (11:Int)
 else
 bif (decide (x.2.2.1 > (13:Int))) then
 some (11:Int)
 else
 bif (decide (x.2.2.2.1 < (0:Int))) then
 some (3:Int)
 else
 (Z4n (x.1,x.2.2.1,x.2.1)).bind fun r9 =>
 bif (decide (x.2.2.2.1 ≥ r9)) then
 some (3:Int)
 else
 bif (decide (x.2.2.2.2 < (0:Int))) then
 some (3:Int)
 else
 bif (x.2.2.1 == (7:Int)) then
 bif (decide (x.2.2.2.2 > (((List.length x.2.1):Nat):Int))) then
 some (3:Int)
 else
 bif (x.2.2.1 != (7:Int)) then
 bif (x.2.2.2.2 != (0:Int)) then
 some (3:Int)
 else
 some (0:Int)
 else
 some (0:Int)
 else
 bif (x.2.2.1 != (7:Int)) then
 bif (x.2.2.2.2 != (0:Int)) then
 some (3:Int)
 else
 some (0:Int)
 else
 some (0:Int)
abbrev Z13n:=Spec.shp Zsp Zy6 Z4l
def Zi3:Ctx:={ tb:=mkTb T2.tbl,fx:=[(158,[],Z13o)],sum:=[],nt:=53,pin:=0,nr:=true,ys:=[] }
theorem Z4m:Sound Tryz.prog 98 (Z13n) :=
 Sound.shp (C:=Zi3) (fn:=Tryz.f98) (by kernel_rfl) (c:=bodyOf Tryz.f98) (by kernel_rfl) (by decide) (ctxOK mixed tbl_ok rfl ⟨Z4o,trivial⟩ trivial) (SumOK.of trivial) (by kernel_rfl) Zsp Zy6 rfl (by decide) (by decide) rfl (by decide) rfl Z4l (fun x=>by kernel_rfl)
abbrev Zp7:Shape:={ sl:=sl_9,bl:=bl_0,ts:=ts_7,pin:=0 }
abbrev Zn8:List (ETag × Shape):=[(.ret,{ sl:=sl_10,bl:=[],ts:=ts_0,pin:=0 }),(.exit 2,{ sl:=sl_11,bl:=bl_0,ts:=ts_8,pin:=0 })]
def Zcj (x:T56):Option (T56 ⊕ (T4 ⊕ T54)) :=
 bif (decide (x.2.2.2.2.2.2.2.1 < x.2.2.2.2.2.2.1)) then
 bif (inb x.2.2.2.2.2.2.2.1 (List.length x.2.2.2.2.2.1)) then
 (Z4l (x.2.2.2.2.2.2.2.2,x.2.1,(getAt ((0:Int),(0:Int),(0:Int)) x.2.2.2.2.2.1 (toN x.2.2.2.2.2.2.2.1)))).bind fun r8 =>
 bif (r8 != (0:Int)) then
 some (.inr (.inl (x.1,x.2.2.2.2.2.2.2.1,r8)))
 else
 some (.inl (x.1,x.2.1,x.2.2.1,x.2.2.2.1,x.2.2.2.2.1,x.2.2.2.2.2.1,x.2.2.2.2.2.2.1,(IntKind.wrap .i64 (x.2.2.2.2.2.2.2.1+(1:Int))),x.2.2.2.2.2.2.2.2))
 else
 none
 else
 some (.inr (.inr (x.2.2.1,x.2.2.2.1,x.2.2.2.2.1,x.2.2.2.2.2.2.2.2)))
def Zi1:Ctx:={ tb:=mkTb T2.tbl,fx:=[(97,[],Z13r),(98,[],Z13n)],sum:=[],nt:=51,pin:=0,nr:=true,ys:=[] }
theorem Zck:CSound Tryz.prog ⟨51,0,true⟩ (.loop (loopOf 11 Tryz.f43)) (Yat Zp7 Zn8 (loop Zcj)) :=
 Y89 (C:=Zi1) (ctxOK mixed tbl_ok rfl ⟨Z4u,Z4m,trivial⟩ trivial) (SumOK.of trivial) Zp7 Zn8 rfl rfl Zcj (fun x=>by kernel_rfl)
abbrev Zp8:Shape:={ sl:=sl_11,bl:=bl_0,ts:=ts_8,pin:=0 }
abbrev Zn9:List (ETag × Shape):=[(.ret,{ sl:=sl_10,bl:=[],ts:=ts_0,pin:=0 }),(.exit 0,{ sl:=[],bl:=[],ts:=[],pin:=0 })]
def Zcl (x:T54):Option (T54 ⊕ (T4 ⊕ Unit)) :=
 bif (decide (x.2.2.1 < x.2.1)) then
 bif (inb x.2.2.1 (List.length x.1)) then
 bif (decide ((((List.length (getAt ([]:List T7) x.1 (toN x.2.2.1))):Nat):Int) > (24:Int))) then
 some (.inr (.inl (x.2.2.1,(Int.negSucc 0),(2:Int))))
 else
 (loop Zcj (x.2.2.1,(getAt ([]:List T7) x.1 (toN x.2.2.1)),x.1,x.2.1,x.2.2.1,(getAt ([]:List T7) x.1 (toN x.2.2.1)),(((List.length (getAt ([]:List T7) x.1 (toN x.2.2.1))):Nat):Int),(0:Int),x.2.2.2)).bind fun r7 =>
 match r7 with
 | .inl y8 =>
 some (.inr (.inl (y8.1,y8.2.1,y8.2.2)))
 | .inr y8 =>
 some (.inl (y8.1,y8.2.1,(IntKind.wrap .i64 (y8.2.2.1+(1:Int))),y8.2.2.2))
 else
 none
 else
 some (.inr (.inr ()))
def Zi2:Ctx:={ tb:=mkTb T2.tbl,fx:=[(97,[],Z13r),(98,[],Z13n)],sum:=[(0,11,Yat Zp7 Zn8 (loop Zcj))],nt:=51,pin:=0,nr:=true,ys:=[] }
theorem Zcm:CSound Tryz.prog ⟨51,0,true⟩ (.loop (loopOf 6 Tryz.f43)) (Yat Zp8 Zn9 (loop Zcl)) :=
 Y89 (C:=Zi2) (ctxOK mixed tbl_ok rfl ⟨Z4u,Z4m,trivial⟩ trivial) (SumOK.of ⟨(Yav (d:=.loop (loopOf 11 Tryz.f43)) (by kernel_rfl) Zck),trivial⟩) Zp8 Zn9 rfl rfl Zcl (fun x=>by kernel_rfl)
abbrev Zso:Shape:={ sl:=sl_6,bl:=[],ts:=[y39],pin:=0 }
abbrev Zy5:Shape:={ sl:=sl_0,bl:=[],ts:=ts_0,pin:=0 }
def Z4j (x:(T47)):Option T4 :=
 (Z4t x).bind fun r5 =>
 bif (r5.2 != (0:Int)) then
 some ((Int.negSucc 0),r5.1,r5.2)
 else
 (loop Zcl (x.2.2.2.2.2,(((List.length x.2.2.2.2.2):Nat):Int),(0:Int),x)).bind fun r6 =>
 match r6 with
 | .inl y7 =>
 some (y7.1,y7.2.1,y7.2.2)
 | .inr y7 =>
 some ((Int.negSucc 0),(Int.negSucc 0),(0:Int))
abbrev Z13m:=Spec.shp Zso Zy5 Z4j
def Zi0:Ctx:={ tb:=mkTb T2.tbl,fx:=[(97,[],Z13r),(98,[],Z13n)],sum:=[(0,11,Yat Zp7 Zn8 (loop Zcj)),(0,6,Yat Zp8 Zn9 (loop Zcl))],nt:=51,pin:=0,nr:=true,ys:=[] }
theorem Z4k:Sound Tryz.prog 43 (Z13m) :=
 Sound.shp (C:=Zi0) (fn:=Tryz.f43) (by kernel_rfl) (c:=bodyOf Tryz.f43) (by kernel_rfl) (by decide) (ctxOK mixed tbl_ok rfl ⟨Z4u,Z4m,trivial⟩ trivial) (SumOK.of ⟨(Yav (d:=.loop (loopOf 11 Tryz.f43)) (by kernel_rfl) Zck),(Yav (d:=.loop (loopOf 6 Tryz.f43)) (by kernel_rfl) Zcm),trivial⟩) (by kernel_rfl) Zso Zy5 rfl (by decide) (by decide) rfl (by decide) rfl Z4j (fun x=>by kernel_rfl)
abbrev Zsm:Shape:={ sl:=sl_6,bl:=[],ts:=[y39],pin:=0 }
abbrev Zy3:Shape:={ sl:=sl_1,bl:=[],ts:=ts_1,pin:=0 }
def Z4f (x:(T47)):Option (Bool) :=
 (Z4j x).bind fun r4 =>
 some (r4.2.2 == (0:Int))
abbrev Z13k:=Spec.shp Zsm Zy3 Z4f
def Zhw:Ctx:={ tb:=mkTb T2.tbl,fx:=[(43,[],Z13m)],sum:=[],nt:=14,pin:=0,nr:=true,ys:=[] }
theorem Z4g:Sound Tryz.prog 15 (Z13k) :=
 Sound.shp (C:=Zhw) (fn:=Tryz.f15) (by kernel_rfl) (c:=bodyOf Tryz.f15) (by kernel_rfl) (by decide) (ctxOK mixed tbl_ok rfl ⟨Z4k,trivial⟩ trivial) (SumOK.of trivial) (by kernel_rfl) Zsm Zy3 rfl (by decide) (by decide) rfl (by decide) rfl Z4f (fun x=>by kernel_rfl)
abbrev Zps:Shape:={ sl:=[(0,(.hole y18)),(1,(.hole y18)),(12,(.hole (.int .i64))),(13,(.hole (.int .i64)))],bl:=[],ts:=[y18,y18,(.int .i64),(.int .i64)],pin:=0 }
abbrev Znt:List (ETag × Shape):=[(.ret,{ sl:=sl_35,bl:=[],ts:=ts_1,pin:=0 }),(.exit 0,{ sl:=[],bl:=[],ts:=[],pin:=0 })]
def Zdp (x:(List (T17) × List (T17) × Int × Int)):Option ((List (T17) × List (T17) × Int × Int) ⊕ ((Bool) ⊕ Unit)) :=
 bif (decide (x.2.2.2 < x.2.2.1)) then
 bif (inb x.2.2.2 (List.length x.1)) then
 bif (inb x.2.2.2 (List.length x.2.1)) then
 bif (Bool.not (((getAt ((0:Int),(0:Int),(0:Int),false) x.1 (toN x.2.2.2)).1 == (getAt ((0:Int),(0:Int),(0:Int),false) x.2.1 (toN x.2.2.2)).1) && (((getAt ((0:Int),(0:Int),(0:Int),false) x.1 (toN x.2.2.2)).2.1 == (getAt ((0:Int),(0:Int),(0:Int),false) x.2.1 (toN x.2.2.2)).2.1) && (((getAt ((0:Int),(0:Int),(0:Int),false) x.1 (toN x.2.2.2)).2.2.1 == (getAt ((0:Int),(0:Int),(0:Int),false) x.2.1 (toN x.2.2.2)).2.2.1) && ((getAt ((0:Int),(0:Int),(0:Int),false) x.1 (toN x.2.2.2)).2.2.2 == (getAt ((0:Int),(0:Int),(0:Int),false) x.2.1 (toN x.2.2.2)).2.2.2))))) then
 some (.inr (.inl false))
 else
 some (.inl (x.1,x.2.1,x.2.2.1,(IntKind.wrap .i64 (x.2.2.2+(1:Int)))))
 else
 none
 else
 none
 else
 some (.inr (.inr ()))
def Zjn:Ctx:={ tb:=mkTb T2.tbl,fx:=[],sum:=[],nt:=26,pin:=0,nr:=true,ys:=[] }
theorem Zdq:CSound Tryz.prog ⟨26,0,true⟩ (.loop (loopOf 5 Tryz.f45)) (Yat Zps Znt (loop Zdp)) :=
 Y89 (C:=Zjn) (ctxOK mixed tbl_ok rfl trivial trivial) (SumOK.of trivial) Zps Znt rfl rfl Zdp (fun x=>by kernel_rfl)
abbrev Ztp:Shape:={ sl:=[(0,(.hole y18)),(1,(.hole y18))],bl:=[],ts:=[y18,y18],pin:=0 }
abbrev Zz6:Shape:={ sl:=sl_1,bl:=[],ts:=ts_1,pin:=0 }
def Z6l (x:(List (T17) × List (T17))):Option (Bool) :=
 bif ((((List.length x.1):Nat):Int) != (((List.length x.2):Nat):Int)) then
 some false
 else
 (loop Zdp (x.1,x.2,(((List.length x.1):Nat):Int),(0:Int))).bind fun r7 =>
 match r7 with
 | .inl y8 =>
 some y8
 | .inr y8 =>
 some true
abbrev Z14n:=Spec.shp Ztp Zz6 Z6l
def Zjm:Ctx:={ tb:=mkTb T2.tbl,fx:=[],sum:=[(0,5,Yat Zps Znt (loop Zdp))],nt:=26,pin:=0,nr:=true,ys:=[] }
theorem Z6m:Sound Tryz.prog 45 (Z14n) :=
 Sound.shp (C:=Zjm) (fn:=Tryz.f45) (by kernel_rfl) (c:=bodyOf Tryz.f45) (by kernel_rfl) (by decide) (ctxOK mixed tbl_ok rfl trivial trivial) (SumOK.of ⟨(Yav (d:=.loop (loopOf 5 Tryz.f45)) (by kernel_rfl) Zdq),trivial⟩) (by kernel_rfl) Ztp Zz6 rfl (by decide) (by decide) rfl (by decide) rfl Z6l (fun x=>by kernel_rfl)
abbrev Zp9:Shape:={ sl:=[(0,(.hole (.slice y9))),(1,(.hole (.slice y9))),(5,(.hole (.int .i64))),(13,(.hole (.int .i64))),(14,(.hole (.int .i64))),(48,(.hole (.int .i64))),(49,(.hole (.int .i64)))],bl:=[],ts:=[(.slice y9),(.slice y9),(.int .i64),(.int .i64),(.int .i64),(.int .i64),(.int .i64)],pin:=0 }
abbrev Zna:List (ETag × Shape):=[(.ret,{ sl:=sl_35,bl:=[],ts:=ts_1,pin:=0 }),(.exit 2,{ sl:=sl_36,bl:=[],ts:=[(.slice y9),(.slice y9),(.int .i64),(.int .i64)],pin:=0 })]
def Zcn (x:(List (T12) × List (T12) × Int × Int × Int × Int × Int)):Option ((List (T12) × List (T12) × Int × Int × Int × Int × Int) ⊕ ((Bool) ⊕ (List (T12) × List (T12) × Int × Int))) :=
 bif (decide (x.2.2.2.2.2.2 < x.2.2.2.2.2.1)) then
 bif (inb x.2.2.1 (List.length x.1)) then
 bif (inb x.2.2.2.2.2.2 (List.length (getAt (([]:List T0),false) x.1 (toN x.2.2.1)).1)) then
 bif (inb x.2.2.1 (List.length x.2.1)) then
 bif (inb x.2.2.2.2.2.2 (List.length (getAt (([]:List T0),false) x.2.1 (toN x.2.2.1)).1)) then
 bif (Bool.not (((getAt (false,(0:Int)) (getAt (([]:List T0),false) x.1 (toN x.2.2.1)).1 (toN x.2.2.2.2.2.2)).1 == (getAt (false,(0:Int)) (getAt (([]:List T0),false) x.2.1 (toN x.2.2.1)).1 (toN x.2.2.2.2.2.2)).1) && ((getAt (false,(0:Int)) (getAt (([]:List T0),false) x.1 (toN x.2.2.1)).1 (toN x.2.2.2.2.2.2)).2 == (getAt (false,(0:Int)) (getAt (([]:List T0),false) x.2.1 (toN x.2.2.1)).1 (toN x.2.2.2.2.2.2)).2))) then
 some (.inr (.inl false))
 else
 some (.inl (x.1,x.2.1,x.2.2.1,x.2.2.2.1,x.2.2.2.2.1,x.2.2.2.2.2.1,(IntKind.wrap .i64 (x.2.2.2.2.2.2+(1:Int)))))
 else
 none
 else
 none
 else
 none
 else
 none
 else
 some (.inr (.inr (x.1,x.2.1,x.2.2.2.1,x.2.2.2.2.1)))
def Zi6:Ctx:={ tb:=mkTb T2.tbl,fx:=[],sum:=[],nt:=71,pin:=0,nr:=true,ys:=[] }
theorem Zco:CSound Tryz.prog ⟨71,0,true⟩ (.loop (loopOf 10 Tryz.f99)) (Yat Zp9 Zna (loop Zcn)) :=
 Y89 (C:=Zi6) (ctxOK mixed tbl_ok rfl trivial trivial) (SumOK.of trivial) Zp9 Zna rfl rfl Zcn (fun x=>by kernel_rfl)
abbrev Zpa:Shape:={ sl:=sl_36,bl:=[],ts:=[(.slice y9),(.slice y9),(.int .i64),(.int .i64)],pin:=0 }
abbrev Znb:List (ETag × Shape):=[(.ret,{ sl:=sl_35,bl:=[],ts:=ts_1,pin:=0 }),(.exit 0,{ sl:=[],bl:=[],ts:=[],pin:=0 })]
def Zcp (x:(List (T12) × List (T12) × Int × Int)):Option ((List (T12) × List (T12) × Int × Int) ⊕ ((Bool) ⊕ Unit)) :=
 bif (decide (x.2.2.2 < x.2.2.1)) then
 bif (inb x.2.2.2 (List.length x.1)) then
 bif (inb x.2.2.2 (List.length x.2.1)) then
 bif (Bool.not ((getAt (([]:List T0),false) x.1 (toN x.2.2.2)).2 == (getAt (([]:List T0),false) x.2.1 (toN x.2.2.2)).2)) then
 some (.inr (.inl false))
 else
 bif (inb x.2.2.2 (List.length x.1)) then
 bif (inb x.2.2.2 (List.length x.2.1)) then
 bif ((((List.length (getAt (([]:List T0),false) x.1 (toN x.2.2.2)).1):Nat):Int) != (((List.length (getAt (([]:List T0),false) x.2.1 (toN x.2.2.2)).1):Nat):Int)) then
 some (.inr (.inl false))
 else
 bif (inb x.2.2.2 (List.length x.1)) then
 (loop Zcn (x.1,x.2.1,x.2.2.2,x.2.2.1,x.2.2.2,(((List.length (getAt (([]:List T0),false) x.1 (toN x.2.2.2)).1):Nat):Int),(0:Int))).bind fun r10 =>
 match r10 with
 | .inl y11 =>
 some (.inr (.inl y11))
 | .inr y11 =>
 some (.inl (y11.1,y11.2.1,y11.2.2.1,(IntKind.wrap .i64 (y11.2.2.2+(1:Int)))))
 else
 none
 else
 none
 else
 none
 else
 none
 else
 none
 else
 some (.inr (.inr ()))
def Zi7:Ctx:={ tb:=mkTb T2.tbl,fx:=[],sum:=[(0,10,Yat Zp9 Zna (loop Zcn))],nt:=71,pin:=0,nr:=true,ys:=[] }
theorem Zcq:CSound Tryz.prog ⟨71,0,true⟩ (.loop (loopOf 5 Tryz.f99)) (Yat Zpa Znb (loop Zcp)) :=
 Y89 (C:=Zi7) (ctxOK mixed tbl_ok rfl trivial trivial) (SumOK.of ⟨(Yav (d:=.loop (loopOf 10 Tryz.f99)) (by kernel_rfl) Zco),trivial⟩) Zpa Znb rfl rfl Zcp (fun x=>by kernel_rfl)
abbrev Zsr:Shape:={ sl:=[(0,(.hole (.slice y9))),(1,(.hole (.slice y9)))],bl:=[],ts:=[(.slice y9),(.slice y9)],pin:=0 }
abbrev Zy8:Shape:={ sl:=sl_1,bl:=[],ts:=ts_1,pin:=0 }
def Z4p (x:(List (T12) × List (T12))):Option (Bool) :=
 bif ((((List.length x.1):Nat):Int) != (((List.length x.2):Nat):Int)) then
 some false
 else
 (loop Zcp (x.1,x.2,(((List.length x.1):Nat):Int),(0:Int))).bind fun r9 =>
 match r9 with
 | .inl y10 =>
 some y10
 | .inr y10 =>
 some true
abbrev Z13p:=Spec.shp Zsr Zy8 Z4p
def Zi5:Ctx:={ tb:=mkTb T2.tbl,fx:=[],sum:=[(0,10,Yat Zp9 Zna (loop Zcn)),(0,5,Yat Zpa Znb (loop Zcp))],nt:=71,pin:=0,nr:=true,ys:=[] }
theorem Z4q:Sound Tryz.prog 99 (Z13p) :=
 Sound.shp (C:=Zi5) (fn:=Tryz.f99) (by kernel_rfl) (c:=bodyOf Tryz.f99) (by kernel_rfl) (by decide) (ctxOK mixed tbl_ok rfl trivial trivial) (SumOK.of ⟨(Yav (d:=.loop (loopOf 10 Tryz.f99)) (by kernel_rfl) Zco),(Yav (d:=.loop (loopOf 5 Tryz.f99)) (by kernel_rfl) Zcq),trivial⟩) (by kernel_rfl) Zsr Zy8 rfl (by decide) (by decide) rfl (by decide) rfl Z4p (fun x=>by kernel_rfl)
abbrev Zp6:Shape:={ sl:=[(2,(.ptr 0 [])),(3,(.ptr 1 [])),(54,(.hole (.int .i64))),(55,(.hole (.int .i64)))],bl:=[.var (.hole y39),.var (.hole y39)],ts:=[(.int .i64),(.int .i64),y39,y39],pin:=0 }
abbrev Zn7:List (ETag × Shape):=[(.ret,{ sl:=sl_35,bl:=[],ts:=ts_1,pin:=0 }),(.exit 0,{ sl:=sl_37,bl:=[.var (.hole y39),.var (.hole y39)],ts:=[y39,y39],pin:=0 })]
def Zch (x:T52):Option (T52 ⊕ ((Bool) ⊕ (T47 × T47))) :=
 bif (decide (x.2.1 < x.1)) then
 bif (inb x.2.1 (List.length x.2.2.1.1)) then
 bif (inb x.2.1 (List.length x.2.2.2.1)) then
 bif ((getAt (0:Int) x.2.2.1.1 (toN x.2.1)) != (getAt (0:Int) x.2.2.2.1 (toN x.2.1))) then
 some (.inr (.inl false))
 else
 some (.inl (x.1,(IntKind.wrap .i64 (x.2.1+(1:Int))),x.2.2.1,x.2.2.2))
 else
 none
 else
 none
 else
 some (.inr (.inr (x.2.2.1,x.2.2.2)))
def Zhz:Ctx:={ tb:=mkTb T2.tbl,fx:=[(99,[],Z13p)],sum:=[],nt:=89,pin:=0,nr:=true,ys:=[] }
theorem Zci:CSound Tryz.prog ⟨89,0,true⟩ (.loop (loopOf 5 Tryz.f46)) (Yat Zp6 Zn7 (loop Zch)) :=
 Y89 (C:=Zhz) (ctxOK mixed tbl_ok rfl ⟨Z4q,trivial⟩ trivial) (SumOK.of trivial) Zp6 Zn7 rfl rfl Zch (fun x=>by kernel_rfl)
abbrev Zp4:Shape:={ sl:=sl_38,bl:=[],ts:=[(.slice y5),(.slice y5),(.int .i64),(.int .i64)],pin:=0 }
abbrev Zn5:List (ETag × Shape):=[(.ret,{ sl:=sl_35,bl:=[],ts:=ts_1,pin:=0 }),(.exit 0,{ sl:=[],bl:=[],ts:=[],pin:=0 })]
def Zcd (x:T26):Option (T26 ⊕ ((Bool) ⊕ Unit)) :=
 bif (decide (x.2.2.2 < x.2.2.1)) then
 bif (inb x.2.2.2 (List.length x.1)) then
 bif (inb x.2.2.2 (List.length x.2.1)) then
 bif (Bool.not (((getAt ((0:Int),(0:Int),(0:Int)) x.1 (toN x.2.2.2)).1 == (getAt ((0:Int),(0:Int),(0:Int)) x.2.1 (toN x.2.2.2)).1) && (((getAt ((0:Int),(0:Int),(0:Int)) x.1 (toN x.2.2.2)).2.1 == (getAt ((0:Int),(0:Int),(0:Int)) x.2.1 (toN x.2.2.2)).2.1) && ((getAt ((0:Int),(0:Int),(0:Int)) x.1 (toN x.2.2.2)).2.2 == (getAt ((0:Int),(0:Int),(0:Int)) x.2.1 (toN x.2.2.2)).2.2)))) then
 some (.inr (.inl false))
 else
 some (.inl (x.1,x.2.1,x.2.2.1,(IntKind.wrap .i64 (x.2.2.2+(1:Int)))))
 else
 none
 else
 none
 else
 some (.inr (.inr ()))
def Zhv:Ctx:={ tb:=mkTb T2.tbl,fx:=[],sum:=[],nt:=26,pin:=0,nr:=true,ys:=[] }
theorem Zce:CSound Tryz.prog ⟨26,0,true⟩ (.loop (loopOf 5 Tryz.f100)) (Yat Zp4 Zn5 (loop Zcd)) :=
 Y89 (C:=Zhv) (ctxOK mixed tbl_ok rfl trivial trivial) (SumOK.of trivial) Zp4 Zn5 rfl rfl Zcd (fun x=>by kernel_rfl)
abbrev Zsl:Shape:={ sl:=[(0,(.hole (.slice y5))),(1,(.hole (.slice y5)))],bl:=[],ts:=[(.slice y5),(.slice y5)],pin:=0 }
abbrev Zy2:Shape:={ sl:=sl_1,bl:=[],ts:=ts_1,pin:=0 }
def Z4d (x:T24):Option (Bool) :=
 bif ((((List.length x.1):Nat):Int) != (((List.length x.2):Nat):Int)) then
 some false
 else
 (loop Zcd (x.1,x.2,(((List.length x.1):Nat):Int),(0:Int))).bind fun r13 =>
 match r13 with
 | .inl y14 =>
 some y14
 | .inr y14 =>
 some true
abbrev Z13j:=Spec.shp Zsl Zy2 Z4d
def Zhu:Ctx:={ tb:=mkTb T2.tbl,fx:=[],sum:=[(0,5,Yat Zp4 Zn5 (loop Zcd))],nt:=26,pin:=0,nr:=true,ys:=[] }
theorem Z4e:Sound Tryz.prog 100 (Z13j) :=
 Sound.shp (C:=Zhu) (fn:=Tryz.f100) (by kernel_rfl) (c:=bodyOf Tryz.f100) (by kernel_rfl) (by decide) (ctxOK mixed tbl_ok rfl trivial trivial) (SumOK.of ⟨(Yav (d:=.loop (loopOf 5 Tryz.f100)) (by kernel_rfl) Zce),trivial⟩) (by kernel_rfl) Zsl Zy2 rfl (by decide) (by decide) rfl (by decide) rfl Z4d (fun x=>by kernel_rfl)
abbrev Zp5:Shape:={ sl:=[(2,(.ptr 0 [])),(3,(.ptr 1 [])),(72,(.hole (.int .i64))),(73,(.hole (.int .i64)))],bl:=[.var (.hole y39),.var (.hole y39)],ts:=[(.int .i64),(.int .i64),y39,y39],pin:=0 }
abbrev Zn6:List (ETag × Shape):=[(.ret,{ sl:=sl_35,bl:=[],ts:=ts_1,pin:=0 }),(.exit 2,{ sl:=[],bl:=[],ts:=[],pin:=0 })]
def Zcf (x:T52):Option (T52 ⊕ ((Bool) ⊕ Unit)) :=
 bif (decide (x.2.1 < x.1)) then
 bif (inb x.2.1 (List.length x.2.2.1.2.2.2.2.2)) then
 bif (inb x.2.1 (List.length x.2.2.2.2.2.2.2.2)) then
 (Z4d ((getAt ([]:List T7) x.2.2.1.2.2.2.2.2 (toN x.2.1)),(getAt ([]:List T7) x.2.2.2.2.2.2.2.2 (toN x.2.1)))).bind fun r12 =>
 bif (Bool.not r12) then
 some (.inr (.inl false))
 else
 some (.inl (x.1,(IntKind.wrap .i64 (x.2.1+(1:Int))),x.2.2.1,x.2.2.2))
 else
 none
 else
 none
 else
 some (.inr (.inr ()))
def Zhy:Ctx:={ tb:=mkTb T2.tbl,fx:=[(99,[],Z13p),(100,[],Z13j)],sum:=[(0,5,Yat Zp6 Zn7 (loop Zch))],nt:=89,pin:=0,nr:=true,ys:=[] }
theorem Zcg:CSound Tryz.prog ⟨89,0,true⟩ (.loop (loopOf 11 Tryz.f46)) (Yat Zp5 Zn6 (loop Zcf)) :=
 Y89 (C:=Zhy) (ctxOK mixed tbl_ok rfl ⟨Z4q,Z4e,trivial⟩ trivial) (SumOK.of ⟨(Yau (by kernel_rfl)),trivial⟩) Zp5 Zn6 rfl rfl Zcf (fun x=>by kernel_rfl)
abbrev Zsn:Shape:={ sl:=[(0,(.hole y39)),(1,(.hole y39))],bl:=[],ts:=[y39,y39],pin:=0 }
abbrev Zy4:Shape:={ sl:=sl_1,bl:=[],ts:=ts_1,pin:=0 }
def Z4h (x:(T47 × T47)):Option (Bool) :=
 bif ((((List.length x.1.1):Nat):Int) != (((List.length x.2.1):Nat):Int)) then
 some false
 else
 bif (x.1.2.1 != x.2.2.1) then
 some false
 else
 bif (x.1.2.2.1 != x.2.2.2.1) then
 some false
 else
 bif (x.1.2.2.2.1 != x.2.2.2.2.1) then
 some false
 else
 (Z4p (x.1.2.2.2.2.1,x.2.2.2.2.2.1)).bind fun r8 =>
 bif (Bool.not r8) then
 some false
 else
 bif ((((List.length x.1.2.2.2.2.2):Nat):Int) != (((List.length x.2.2.2.2.2.2):Nat):Int)) then
 some false
 else
 (loop Zch ((((List.length x.1.1):Nat):Int),(0:Int),x.1,x.2)).bind fun r9 =>
 match r9 with
 | .inl y10 =>
 some y10
 | .inr y10 =>
 (loop Zcf ((((List.length y10.1.2.2.2.2.2):Nat):Int),(0:Int),y10.1,y10.2)).bind fun r11 =>
 match r11 with
 | .inl y12 =>
 some y12
 | .inr y12 =>
 some true
abbrev Z13l:=Spec.shp Zsn Zy4 Z4h
def Zhx:Ctx:={ tb:=mkTb T2.tbl,fx:=[(99,[],Z13p),(100,[],Z13j)],sum:=[(0,5,Yat Zp6 Zn7 (loop Zch)),(0,11,Yat Zp5 Zn6 (loop Zcf))],nt:=89,pin:=0,nr:=true,ys:=[] }
theorem Z4i:Sound Tryz.prog 46 (Z13l) :=
 Sound.shp (C:=Zhx) (fn:=Tryz.f46) (by kernel_rfl) (c:=bodyOf Tryz.f46) (by kernel_rfl) (by decide) (ctxOK mixed tbl_ok rfl ⟨Z4q,Z4e,trivial⟩ trivial) (SumOK.of ⟨(Yav (d:=.loop (loopOf 5 Tryz.f46)) (by kernel_rfl) Zci),(Yav (d:=.loop (loopOf 11 Tryz.f46)) (by kernel_rfl) Zcg),trivial⟩) (by kernel_rfl) Zsn Zy4 rfl (by decide) (by decide) rfl (by decide) rfl Z4h (fun x=>by kernel_rfl)
abbrev Zp3:Shape:={ sl:=sl_38,bl:=[],ts:=[(.slice y5),(.slice y5),(.int .i64),(.int .i64)],pin:=0 }
abbrev Zn4:List (ETag × Shape):=[(.ret,{ sl:=sl_35,bl:=[],ts:=ts_1,pin:=0 }),(.exit 0,{ sl:=[],bl:=[],ts:=[],pin:=0 })]
def Zcb (x:T26):Option (T26 ⊕ ((Bool) ⊕ Unit)) :=
 bif (decide (x.2.2.2 < x.2.2.1)) then
 bif (inb x.2.2.2 (List.length x.1)) then
 bif (inb x.2.2.2 (List.length x.2.1)) then
 bif (Bool.not (((getAt ((0:Int),(0:Int),(0:Int)) x.1 (toN x.2.2.2)).1 == (getAt ((0:Int),(0:Int),(0:Int)) x.2.1 (toN x.2.2.2)).1) && (((getAt ((0:Int),(0:Int),(0:Int)) x.1 (toN x.2.2.2)).2.1 == (getAt ((0:Int),(0:Int),(0:Int)) x.2.1 (toN x.2.2.2)).2.1) && ((getAt ((0:Int),(0:Int),(0:Int)) x.1 (toN x.2.2.2)).2.2 == (getAt ((0:Int),(0:Int),(0:Int)) x.2.1 (toN x.2.2.2)).2.2)))) then
 some (.inr (.inl false))
 else
 some (.inl (x.1,x.2.1,x.2.2.1,(IntKind.wrap .i64 (x.2.2.2+(1:Int)))))
 else
 none
 else
 none
 else
 some (.inr (.inr ()))
def Zht:Ctx:={ tb:=mkTb T2.tbl,fx:=[],sum:=[],nt:=26,pin:=0,nr:=true,ys:=[] }
theorem Zcc:CSound Tryz.prog ⟨26,0,true⟩ (.loop (loopOf 5 Tryz.f101)) (Yat Zp3 Zn4 (loop Zcb)) :=
 Y89 (C:=Zht) (ctxOK mixed tbl_ok rfl trivial trivial) (SumOK.of trivial) Zp3 Zn4 rfl rfl Zcb (fun x=>by kernel_rfl)
abbrev Zsk:Shape:={ sl:=[(0,(.hole (.slice y5))),(1,(.hole (.slice y5)))],bl:=[],ts:=[(.slice y5),(.slice y5)],pin:=0 }
abbrev Zy1:Shape:={ sl:=sl_1,bl:=[],ts:=ts_1,pin:=0 }
def Z4b (x:T24):Option (Bool) :=
 bif ((((List.length x.1):Nat):Int) != (((List.length x.2):Nat):Int)) then
 some false
 else
 (loop Zcb (x.1,x.2,(((List.length x.1):Nat):Int),(0:Int))).bind fun r11 =>
 match r11 with
 | .inl y12 =>
 some y12
 | .inr y12 =>
 some true
abbrev Z13i:=Spec.shp Zsk Zy1 Z4b
def Zhs:Ctx:={ tb:=mkTb T2.tbl,fx:=[],sum:=[(0,5,Yat Zp3 Zn4 (loop Zcb))],nt:=26,pin:=0,nr:=true,ys:=[] }
theorem Z4c:Sound Tryz.prog 101 (Z13i) :=
 Sound.shp (C:=Zhs) (fn:=Tryz.f101) (by kernel_rfl) (c:=bodyOf Tryz.f101) (by kernel_rfl) (by decide) (ctxOK mixed tbl_ok rfl trivial trivial) (SumOK.of ⟨(Yav (d:=.loop (loopOf 5 Tryz.f101)) (by kernel_rfl) Zcc),trivial⟩) (by kernel_rfl) Zsk Zy1 rfl (by decide) (by decide) rfl (by decide) rfl Z4b (fun x=>by kernel_rfl)
abbrev Zsg:Shape:={ sl:=[(0,(.hole y21))],bl:=[],ts:=[y21],pin:=0 }
abbrev Zxx:Shape:={ sl:=sl_1,bl:=[],ts:=ts_1,pin:=0 }
def Z43 (x:(T16)):Option (Bool) :=
 bif (decide (x.1 < (0:Int))) then
 some false
 else
 bif (decide (x.1 > (8:Int))) then
 some false
 else
 bif ((((List.length x.2.2.1):Nat):Int) != x.1) then
 some false
 else
 bif (decide (x.2.2.2 < (0:Int))) then
 some false
 else
 bif (decide (x.2.2.2 > x.1)) then
 some false
 else
 bif (x.2.1 == (0:Int)) then
 some true
 else
 bif (decide (x.2.1 > (0:Int))) then
 some (decide (x.2.1 < x.1))
 else
 some false
abbrev Z13e:=Spec.shp Zsg Zxx Z43
def Zhl:Ctx:={ tb:=mkTb T2.tbl,fx:=[],sum:=[],nt:=46,pin:=0,nr:=true,ys:=[] }
theorem Z44:Sound Tryz.prog 102 (Z13e) :=
 Sound.shp (C:=Zhl) (fn:=Tryz.f102) (by kernel_rfl) (c:=bodyOf Tryz.f102) (by kernel_rfl) (by decide) (ctxOK mixed tbl_ok rfl trivial trivial) (SumOK.of trivial) (by kernel_rfl) Zsg Zxx rfl (by decide) (by decide) rfl (by decide) rfl Z43 (fun x=>by kernel_rfl)
abbrev Zoz:Shape:={ sl:=[(1,(.ptr 0 [])),(3,(.sl 1)),(4,(.hole (.int .i64)))],bl:=[.var (.hole y21),.row (.int .i64)],ts:=[(.int .i64),y21,y0],pin:=0 }
abbrev Zn0:List (ETag × Shape):=[(.exit 0,{ sl:=[(3,(.sl 0))],bl:=bl_14,ts:=[y0],pin:=0 })]
def Zc3 (x:T33):Option (T33 ⊕ (List Int)) :=
 bif (decide (x.1 < x.2.1.2.2.2)) then
 bif (decide ((IntKind.wrap .i64 (x.2.1.2.1+x.1)) ≥ x.2.1.1)) then
 bif (inb (IntKind.wrap .i64 ((IntKind.wrap .i64 (x.2.1.2.1+x.1)) - x.2.1.1)) (List.length x.2.1.2.2.1)) then
 bif (fits ((List.length x.2.2)+(List.length ((getAt (0:Int) x.2.1.2.2.1 (toN (IntKind.wrap .i64 ((IntKind.wrap .i64 (x.2.1.2.1+x.1)) - x.2.1.1)))) :: ([]:List Int))))) then
 some (.inl ((IntKind.wrap .i64 (x.1+(1:Int))),x.2.1,(x.2.2++((getAt (0:Int) x.2.1.2.2.1 (toN (IntKind.wrap .i64 ((IntKind.wrap .i64 (x.2.1.2.1+x.1)) - x.2.1.1)))) :: ([]:List Int)))))
 else
 none
 else
 none
 else
 bif (inb (IntKind.wrap .i64 (x.2.1.2.1+x.1)) (List.length x.2.1.2.2.1)) then
 bif (fits ((List.length x.2.2)+(List.length ((getAt (0:Int) x.2.1.2.2.1 (toN (IntKind.wrap .i64 (x.2.1.2.1+x.1)))) :: ([]:List Int))))) then
 some (.inl ((IntKind.wrap .i64 (x.1+(1:Int))),x.2.1,(x.2.2++((getAt (0:Int) x.2.1.2.2.1 (toN (IntKind.wrap .i64 (x.2.1.2.1+x.1)))) :: ([]:List Int)))))
 else
 none
 else
 none
 else
 some (.inr x.2.2)
def Zhk:Ctx:={ tb:=mkTb T2.tbl,fx:=[],sum:=[],nt:=34,pin:=0,nr:=true,ys:=[] }
theorem Zc4:CSound Tryz.prog ⟨34,0,true⟩ (.loop (loopOf 4 Tryz.f104)) (Yat Zoz Zn0 (loop Zc3)) :=
 Y89 (C:=Zhk) (ctxOK mixed tbl_ok rfl trivial trivial) (SumOK.of trivial) Zoz Zn0 rfl rfl Zc3 (fun x=>by kernel_rfl)
abbrev Zsf:Shape:={ sl:=[(0,(.hole y21))],bl:=[],ts:=[y21],pin:=0 }
abbrev Zxw:Shape:={ sl:=[(0,(.hole y0))],bl:=[],ts:=[y0],pin:=0 }
def Z41 (x:(T16)):Option (List Int) :=
 (loop Zc3 ((0:Int),x,([]:List Int))).bind fun r14 =>
 some r14
abbrev Z13d:=Spec.shp Zsf Zxw Z41
def Zhj:Ctx:={ tb:=mkTb T2.tbl,fx:=[],sum:=[(0,4,Yat Zoz Zn0 (loop Zc3))],nt:=34,pin:=0,nr:=true,ys:=[] }
theorem Z42:Sound Tryz.prog 104 (Z13d) :=
 Sound.shp (C:=Zhj) (fn:=Tryz.f104) (by kernel_rfl) (c:=bodyOf Tryz.f104) (by kernel_rfl) (by decide) (ctxOK mixed tbl_ok rfl trivial trivial) (SumOK.of ⟨(Yav (d:=.loop (loopOf 4 Tryz.f104)) (by kernel_rfl) Zc4),trivial⟩) (by kernel_rfl) Zsf Zxw rfl (by decide) (by decide) rfl (by decide) rfl Z41 (fun x=>by kernel_rfl)
abbrev Zoy:Shape:={ sl:=[(2,(.hole y0)),(26,(.hole y0)),(27,(.hole (.int .i64))),(28,(.hole (.int .i64)))],bl:=[],ts:=[y0,y0,(.int .i64),(.int .i64)],pin:=0 }
abbrev Zmz:List (ETag × Shape):=[(.ret,{ sl:=[(6,(.hole .bool))],bl:=[],ts:=ts_1,pin:=0 }),(.exit 0,{ sl:=[],bl:=[],ts:=[],pin:=0 })]
def Zc1 (x:T10):Option (T10 ⊕ ((Bool) ⊕ Unit)) :=
 bif (decide (x.2.2.2 < x.2.2.1)) then
 bif (inb x.2.2.2 (List.length x.2.1)) then
 bif (inb x.2.2.2 (List.length x.1)) then
 bif ((getAt (0:Int) x.2.1 (toN x.2.2.2)) != (getAt (0:Int) x.1 (toN x.2.2.2))) then
 some (.inr (.inl false))
 else
 some (.inl (x.1,x.2.1,x.2.2.1,(IntKind.wrap .i64 (x.2.2.2+(1:Int)))))
 else
 none
 else
 none
 else
 some (.inr (.inr ()))
def Zhi:Ctx:={ tb:=mkTb T2.tbl,fx:=[(102,[],Z13e),(104,[],Z13d)],sum:=[],nt:=40,pin:=0,nr:=true,ys:=[] }
theorem Zc2:CSound Tryz.prog ⟨40,0,true⟩ (.loop (loopOf 5 Tryz.f103)) (Yat Zoy Zmz (loop Zc1)) :=
 Y89 (C:=Zhi) (ctxOK mixed tbl_ok rfl ⟨Z44,Z42,trivial⟩ trivial) (SumOK.of trivial) Zoy Zmz rfl rfl Zc1 (fun x=>by kernel_rfl)
abbrev Zse:Shape:={ sl:=[(0,(.hole y21)),(1,(.hole (.int .i64))),(2,(.hole y0))],bl:=[],ts:=[y21,(.int .i64),y0],pin:=0 }
abbrev Zxv:Shape:={ sl:=sl_1,bl:=[],ts:=ts_1,pin:=0 }
def Z3z (x:(T16 × Int × List Int)):Option (Bool) :=
 (Z43 x.1).bind fun r15 =>
 bif (Bool.not r15) then
 some false
 else
 bif (x.1.1 != x.2.1) then
 some false
 else
 bif (x.1.2.2.2 != (((List.length x.2.2):Nat):Int)) then
 some false
 else
 (Z41 x.1).bind fun r16 =>
 (loop Zc1 (x.2.2,r16,(((List.length r16):Nat):Int),(0:Int))).bind fun r17 =>
 match r17 with
 | .inl y18 =>
 some y18
 | .inr y18 =>
 some true
abbrev Z13c:=Spec.shp Zse Zxv Z3z
def Zhh:Ctx:={ tb:=mkTb T2.tbl,fx:=[(102,[],Z13e),(104,[],Z13d)],sum:=[(0,5,Yat Zoy Zmz (loop Zc1))],nt:=40,pin:=0,nr:=true,ys:=[] }
theorem Z40:Sound Tryz.prog 103 (Z13c) :=
 Sound.shp (C:=Zhh) (fn:=Tryz.f103) (by kernel_rfl) (c:=bodyOf Tryz.f103) (by kernel_rfl) (by decide) (ctxOK mixed tbl_ok rfl ⟨Z44,Z42,trivial⟩ trivial) (SumOK.of ⟨(Yav (d:=.loop (loopOf 5 Tryz.f103)) (by kernel_rfl) Zc2),trivial⟩) (by kernel_rfl) Zse Zxv rfl (by decide) (by decide) rfl (by decide) rfl Z3z (fun x=>by kernel_rfl)
abbrev Zt0:Shape:={ sl:=[(0,(.hole y40)),(1,(.hole y40))],bl:=[],ts:=[y40,y40],pin:=0 }
abbrev Zyh:Shape:={ sl:=sl_1,bl:=[],ts:=ts_1,pin:=0 }
def Z57 (x:((Int × T40) × (Int × T40))):Option (Bool) :=
 bif (x.1.1 != x.2.1) then
 some false
 else
 bif (Bool.not (x.1.2.1 == x.2.2.1)) then
 some false
 else
 bif (x.1.2.2.2.1 != x.2.2.2.2.1) then
 some false
 else
 bif (x.1.2.2.2.2.1 != x.2.2.2.2.2.1) then
 some false
 else
 (Z4b (x.1.2.2.2.2.2.1,x.2.2.2.2.2.2.1)).bind fun r10 =>
 bif (Bool.not r10) then
 some false
 else
 (Z4b (x.1.2.2.2.2.2.2,x.2.2.2.2.2.2.2)).bind fun r11 =>
 bif (Bool.not r11) then
 some false
 else
 (Z43 x.2.2.2.1).bind fun r12 =>
 bif r12 then
 (Z41 x.2.2.2.1).bind fun r13 =>
 (Z3z (x.1.2.2.1,x.2.2.2.1.1,r13)).bind fun r14 =>
 some r14
 else
 some false
abbrev Z13y:=Spec.shp Zt0 Zyh Z57
def Zik:Ctx:={ tb:=mkTb T2.tbl,fx:=[(101,[],Z13i),(102,[],Z13e),(104,[],Z13d),(103,[],Z13c)],sum:=[],nt:=61,pin:=0,nr:=true,ys:=[] }
theorem Z58:Sound Tryz.prog 47 (Z13y) :=
 Sound.shp (C:=Zik) (fn:=Tryz.f47) (by kernel_rfl) (c:=bodyOf Tryz.f47) (by kernel_rfl) (by decide) (ctxOK mixed tbl_ok rfl ⟨Z4c,Z44,Z42,Z40,trivial⟩ trivial) (SumOK.of trivial) (by kernel_rfl) Zt0 Zyh rfl (by decide) (by decide) rfl (by decide) rfl Z57 (fun x=>by kernel_rfl)
abbrev Zpo:Shape:={ sl:=[(2,(.ptr 0 [])),(3,(.ptr 1 [])),(65,(.hole (.int .i64))),(66,(.hole (.int .i64)))],bl:=bl_20,ts:=[(.int .i64),(.int .i64),y45,y45],pin:=0 }
abbrev Znp:List (ETag × Shape):=[(.ret,{ sl:=sl_35,bl:=[],ts:=ts_1,pin:=0 }),(.exit 0,{ sl:=sl_37,bl:=bl_20,ts:=[y45,y45],pin:=0 })]
def Zdh (x:T65):Option (T65 ⊕ ((Bool) ⊕ ((T47 × T61) × (T47 × T61)))) :=
 bif (decide (x.2.1 < x.1)) then
 bif (inb x.2.1 (List.length x.2.2.1.2.2.1)) then
 bif (inb x.2.1 (List.length x.2.2.2.2.2.1)) then
 (Z57 ((getAt ((0:Int),false,((0:Int),(0:Int),([]:List Int),(0:Int)),(0:Int),(0:Int),([]:List T7),([]:List T7)) x.2.2.1.2.2.1 (toN x.2.1)),(getAt ((0:Int),false,((0:Int),(0:Int),([]:List Int),(0:Int)),(0:Int),(0:Int),([]:List T7),([]:List T7)) x.2.2.2.2.2.1 (toN x.2.1)))).bind fun r9 =>
 bif (Bool.not r9) then
 some (.inr (.inl false))
 else
 some (.inl (x.1,(IntKind.wrap .i64 (x.2.1+(1:Int))),x.2.2.1,x.2.2.2))
 else
 none
 else
 none
 else
 some (.inr (.inr (x.2.2.1,x.2.2.2)))
def Zj9:Ctx:={ tb:=mkTb T2.tbl,fx:=[(45,[],Z14n),(46,[],Z13l),(47,[],Z13y)],sum:=[],nt:=120,pin:=0,nr:=true,ys:=[] }
theorem Zdi:CSound Tryz.prog ⟨120,0,true⟩ (.loop (loopOf 5 Tryz.f17)) (Yat Zpo Znp (loop Zdh)) :=
 Y89 (C:=Zj9) (ctxOK mixed tbl_ok rfl ⟨Z6m,Z4i,Z58,trivial⟩ trivial) (SumOK.of trivial) Zpo Znp rfl rfl Zdh (fun x=>by kernel_rfl)
abbrev Zt6:Shape:={ sl:=[(0,(.hole y15)),(1,(.hole y15))],bl:=[],ts:=[y15,y15],pin:=0 }
abbrev Zyn:Shape:={ sl:=sl_1,bl:=[],ts:=ts_1,pin:=0 }
def Z5j (x:(T18 × T18)):Option (Bool) :=
 bif (x.1.1 == x.2.1) then
 (Z4b (x.1.2,x.2.2)).bind fun r12 =>
 some r12
 else
 some false
abbrev Z144:=Spec.shp Zt6 Zyn Z5j
def Zir:Ctx:={ tb:=mkTb T2.tbl,fx:=[(101,[],Z13i)],sum:=[],nt:=17,pin:=0,nr:=true,ys:=[] }
theorem Z5k:Sound Tryz.prog 48 (Z144) :=
 Sound.shp (C:=Zir) (fn:=Tryz.f48) (by kernel_rfl) (c:=bodyOf Tryz.f48) (by kernel_rfl) (by decide) (ctxOK mixed tbl_ok rfl ⟨Z4c,trivial⟩ trivial) (SumOK.of trivial) (by kernel_rfl) Zt6 Zyn rfl (by decide) (by decide) rfl (by decide) rfl Z5j (fun x=>by kernel_rfl)
abbrev Zpm:Shape:={ sl:=[(2,(.ptr 0 [])),(3,(.ptr 1 [])),(84,(.hole (.int .i64))),(85,(.hole (.int .i64)))],bl:=bl_20,ts:=[(.int .i64),(.int .i64),y45,y45],pin:=0 }
abbrev Znn:List (ETag × Shape):=[(.ret,{ sl:=sl_35,bl:=[],ts:=ts_1,pin:=0 }),(.exit 2,{ sl:=sl_37,bl:=bl_20,ts:=[y45,y45],pin:=0 })]
def Zdd (x:T65):Option (T65 ⊕ ((Bool) ⊕ ((T47 × T61) × (T47 × T61)))) :=
 bif (decide (x.2.1 < x.1)) then
 bif (inb x.2.1 (List.length x.2.2.1.2.2.2.1)) then
 bif (inb x.2.1 (List.length x.2.2.2.2.2.2.1)) then
 (Z5j ((getAt (false,([]:List T7)) x.2.2.1.2.2.2.1 (toN x.2.1)),(getAt (false,([]:List T7)) x.2.2.2.2.2.2.1 (toN x.2.1)))).bind fun r11 =>
 bif (Bool.not r11) then
 some (.inr (.inl false))
 else
 some (.inl (x.1,(IntKind.wrap .i64 (x.2.1+(1:Int))),x.2.2.1,x.2.2.2))
 else
 none
 else
 none
 else
 some (.inr (.inr (x.2.2.1,x.2.2.2)))
def Zj7:Ctx:={ tb:=mkTb T2.tbl,fx:=[(45,[],Z14n),(46,[],Z13l),(47,[],Z13y),(48,[],Z144)],sum:=[(0,5,Yat Zpo Znp (loop Zdh))],nt:=120,pin:=0,nr:=true,ys:=[] }
theorem Zde:CSound Tryz.prog ⟨120,0,true⟩ (.loop (loopOf 11 Tryz.f17)) (Yat Zpm Znn (loop Zdd)) :=
 Y89 (C:=Zj7) (ctxOK mixed tbl_ok rfl ⟨Z6m,Z4i,Z58,Z5k,trivial⟩ trivial) (SumOK.of ⟨(Yau (by kernel_rfl)),trivial⟩) Zpm Znn rfl rfl Zdd (fun x=>by kernel_rfl)
abbrev Zta:Shape:={ sl:=[(0,(.hole y23)),(1,(.hole y23))],bl:=[],ts:=[y23,y23],pin:=0 }
abbrev Zyr:Shape:={ sl:=sl_1,bl:=[],ts:=ts_1,pin:=0 }
def Z5r (x:((Int × T13) × (Int × T13))):Option (Bool) :=
 bif (x.1.1 == x.2.1) then
 bif (x.1.2.1 == x.2.2.1) then
 (Z4b (x.1.2.2,x.2.2.2)).bind fun r14 =>
 some r14
 else
 some false
 else
 some false
abbrev Z148:=Spec.shp Zta Zyr Z5r
def Ziv:Ctx:={ tb:=mkTb T2.tbl,fx:=[(101,[],Z13i)],sum:=[],nt:=24,pin:=0,nr:=true,ys:=[] }
theorem Z5s:Sound Tryz.prog 49 (Z148) :=
 Sound.shp (C:=Ziv) (fn:=Tryz.f49) (by kernel_rfl) (c:=bodyOf Tryz.f49) (by kernel_rfl) (by decide) (ctxOK mixed tbl_ok rfl ⟨Z4c,trivial⟩ trivial) (SumOK.of trivial) (by kernel_rfl) Zta Zyr rfl (by decide) (by decide) rfl (by decide) rfl Z5r (fun x=>by kernel_rfl)
abbrev Zpn:Shape:={ sl:=[(2,(.ptr 0 [])),(3,(.ptr 1 [])),(103,(.hole (.int .i64))),(104,(.hole (.int .i64)))],bl:=bl_20,ts:=[(.int .i64),(.int .i64),y45,y45],pin:=0 }
abbrev Zno:List (ETag × Shape):=[(.ret,{ sl:=sl_35,bl:=[],ts:=ts_1,pin:=0 }),(.exit 4,{ sl:=[],bl:=[],ts:=[],pin:=0 })]
def Zdf (x:T65):Option (T65 ⊕ ((Bool) ⊕ Unit)) :=
 bif (decide (x.2.1 < x.1)) then
 bif (inb x.2.1 (List.length x.2.2.1.2.2.2.2.1)) then
 bif (inb x.2.1 (List.length x.2.2.2.2.2.2.2.1)) then
 (Z5r ((getAt ((0:Int),(0:Int),([]:List T7)) x.2.2.1.2.2.2.2.1 (toN x.2.1)),(getAt ((0:Int),(0:Int),([]:List T7)) x.2.2.2.2.2.2.2.1 (toN x.2.1)))).bind fun r13 =>
 bif (Bool.not r13) then
 some (.inr (.inl false))
 else
 some (.inl (x.1,(IntKind.wrap .i64 (x.2.1+(1:Int))),x.2.2.1,x.2.2.2))
 else
 none
 else
 none
 else
 some (.inr (.inr ()))
def Zj8:Ctx:={ tb:=mkTb T2.tbl,fx:=[(45,[],Z14n),(46,[],Z13l),(47,[],Z13y),(48,[],Z144),(49,[],Z148)],sum:=[(0,5,Yat Zpo Znp (loop Zdh)),(0,11,Yat Zpm Znn (loop Zdd))],nt:=120,pin:=0,nr:=true,ys:=[] }
theorem Zdg:CSound Tryz.prog ⟨120,0,true⟩ (.loop (loopOf 17 Tryz.f17)) (Yat Zpn Zno (loop Zdf)) :=
 Y89 (C:=Zj8) (ctxOK mixed tbl_ok rfl ⟨Z6m,Z4i,Z58,Z5k,Z5s,trivial⟩ trivial) (SumOK.of ⟨(Yau (by kernel_rfl)),(Yau (by kernel_rfl)),trivial⟩) Zpn Zno rfl rfl Zdf (fun x=>by kernel_rfl)
abbrev Ztf:Shape:={ sl:=[(0,(.hole y45)),(1,(.hole y45))],bl:=[],ts:=[y45,y45],pin:=0 }
abbrev Zyw:Shape:={ sl:=sl_1,bl:=[],ts:=ts_1,pin:=0 }
def Z61 (x:((T47 × T61) × (T47 × T61))):Option (Bool) :=
 bif (x.1.2.2.2.2.2.1 != x.2.2.2.2.2.2.1) then
 some false
 else
 bif (x.1.2.2.2.2.2.2 != x.2.2.2.2.2.2.2) then
 some false
 else
 (Z6l (x.1.2.1,x.2.2.1)).bind fun r6 =>
 bif (Bool.not r6) then
 some false
 else
 (Z4h (x.1.1,x.2.1)).bind fun r7 =>
 bif (Bool.not r7) then
 some false
 else
 bif ((((List.length x.1.2.2.1):Nat):Int) != (((List.length x.2.2.2.1):Nat):Int)) then
 some false
 else
 bif ((((List.length x.1.2.2.2.1):Nat):Int) != (((List.length x.2.2.2.2.1):Nat):Int)) then
 some false
 else
 bif ((((List.length x.1.2.2.2.2.1):Nat):Int) != (((List.length x.2.2.2.2.2.1):Nat):Int)) then
 some false
 else
 (loop Zdh ((((List.length x.1.2.2.1):Nat):Int),(0:Int),x.1,x.2)).bind fun r8 =>
 match r8 with
 | .inl y9 =>
 some y9
 | .inr y9 =>
 (loop Zdd ((((List.length y9.1.2.2.2.1):Nat):Int),(0:Int),y9.1,y9.2)).bind fun r10 =>
 match r10 with
 | .inl y11 =>
 some y11
 | .inr y11 =>
 (loop Zdf ((((List.length y11.1.2.2.2.2.1):Nat):Int),(0:Int),y11.1,y11.2)).bind fun r12 =>
 match r12 with
 | .inl y13 =>
 some y13
 | .inr y13 =>
 some true
abbrev Z14d:=Spec.shp Ztf Zyw Z61
def Zj6:Ctx:={ tb:=mkTb T2.tbl,fx:=[(45,[],Z14n),(46,[],Z13l),(47,[],Z13y),(48,[],Z144),(49,[],Z148)],sum:=[(0,5,Yat Zpo Znp (loop Zdh)),(0,11,Yat Zpm Znn (loop Zdd)),(0,17,Yat Zpn Zno (loop Zdf))],nt:=120,pin:=0,nr:=true,ys:=[] }
theorem Z62:Sound Tryz.prog 17 (Z14d) :=
 Sound.shp (C:=Zj6) (fn:=Tryz.f17) (by kernel_rfl) (c:=bodyOf Tryz.f17) (by kernel_rfl) (by decide) (ctxOK mixed tbl_ok rfl ⟨Z6m,Z4i,Z58,Z5k,Z5s,trivial⟩ trivial) (SumOK.of ⟨(Yav (d:=.loop (loopOf 5 Tryz.f17)) (by kernel_rfl) Zdi),(Yav (d:=.loop (loopOf 11 Tryz.f17)) (by kernel_rfl) Zde),(Yav (d:=.loop (loopOf 17 Tryz.f17)) (by kernel_rfl) Zdg),trivial⟩) (by kernel_rfl) Ztf Zyw rfl (by decide) (by decide) rfl (by decide) rfl Z61 (fun x=>by kernel_rfl)
abbrev Zpe:Shape:={ sl:=[(0,(.hole (.int .i64))),(2,(.ptr 0 [])),(3,(.ptr 1 [])),(4,(.hole (.int .i64)))],bl:=bl_21,ts:=[(.int .i64),(.int .i64),(.int .i64),.bool,(.int .i64),(.int .i64),(.int .i64),(.int .i64),(.int .i64),(.int .i64),.bool,(.int .i64),(.int .i64),(.int .i64),(.int .i64),(.int .i64),y0],pin:=0 }
abbrev Znf:List (ETag × Shape):=[(.exit 0,{ sl:=sl_37,bl:=bl_21,ts:=[(.int .i64),.bool,(.int .i64),(.int .i64),(.int .i64),(.int .i64),(.int .i64),(.int .i64),.bool,(.int .i64),(.int .i64),(.int .i64),(.int .i64),(.int .i64),y0],pin:=0 })]
def Zcx (x:(Int × Int × Int × Bool × Int × Int × Int × Int × Int × Int × Bool × Int × Int × Int × Int × Int × List Int)):Option ((Int × Int × Int × Bool × Int × Int × Int × Int × Int × Int × Bool × Int × Int × Int × Int × Int × List Int) ⊕ (Int × Bool × Int × Int × Int × Int × Int × Int × Bool × Int × Int × Int × Int × Int × List Int)) :=
 bif (decide (x.2.1 < x.1)) then
 bif (fits ((List.length x.2.2.2.2.2.2.2.2.2.2.2.2.2.2.2.2)+(List.length ((0:Int) :: ([]:List Int))))) then
 some (.inl (x.1,(IntKind.wrap .i64 (x.2.1+(1:Int))),x.2.2.1,x.2.2.2.1,x.2.2.2.2.1,x.2.2.2.2.2.1,x.2.2.2.2.2.2.1,x.2.2.2.2.2.2.2.1,x.2.2.2.2.2.2.2.2.1,x.2.2.2.2.2.2.2.2.2.1,x.2.2.2.2.2.2.2.2.2.2.1,x.2.2.2.2.2.2.2.2.2.2.2.1,x.2.2.2.2.2.2.2.2.2.2.2.2.1,x.2.2.2.2.2.2.2.2.2.2.2.2.2.1,x.2.2.2.2.2.2.2.2.2.2.2.2.2.2.1,x.2.2.2.2.2.2.2.2.2.2.2.2.2.2.2.1,(x.2.2.2.2.2.2.2.2.2.2.2.2.2.2.2.2++((0:Int) :: ([]:List Int)))))
 else
 none
 else
 some (.inr (x.2.2.1,x.2.2.2.1,x.2.2.2.2.1,x.2.2.2.2.2.1,x.2.2.2.2.2.2.1,x.2.2.2.2.2.2.2.1,x.2.2.2.2.2.2.2.2.1,x.2.2.2.2.2.2.2.2.2.1,x.2.2.2.2.2.2.2.2.2.2.1,x.2.2.2.2.2.2.2.2.2.2.2.1,x.2.2.2.2.2.2.2.2.2.2.2.2.1,x.2.2.2.2.2.2.2.2.2.2.2.2.2.1,x.2.2.2.2.2.2.2.2.2.2.2.2.2.2.1,x.2.2.2.2.2.2.2.2.2.2.2.2.2.2.2.1,x.2.2.2.2.2.2.2.2.2.2.2.2.2.2.2.2))
def Zig:Ctx:={ tb:=mkTb T2.tbl,fx:=[],sum:=[],nt:=23,pin:=0,nr:=true,ys:=[] }
theorem Zcy:CSound Tryz.prog ⟨23,0,true⟩ (.loop (loopOf 4 Tryz.f50)) (Yat Zpe Znf (loop Zcx)) :=
 Y89 (C:=Zig) (ctxOK mixed tbl_ok rfl trivial trivial) (SumOK.of trivial) Zpe Znf rfl rfl Zcx (fun x=>by kernel_rfl)
abbrev Zsw:Shape:={ sl:=sl_2,bl:=[],ts:=ts_2,pin:=0 }
abbrev Zyd:Shape:={ sl:=[(0,(.hole y40))],bl:=[],ts:=[y40],pin:=0 }
def Z4z (x:(Int)):Option T43 :=
 (loop Zcx (x,(0:Int),(0:Int),false,(0:Int),(0:Int),(0:Int),(0:Int),(0:Int),x,false,(Max.max x (0:Int)),(0:Int),(0:Int),(0:Int),(0:Int),([]:List Int))).bind fun r7 =>
 some (r7.2.2.2.2.2.2.2.1,r7.2.2.2.2.2.2.2.2.1,(r7.2.2.2.2.2.2.2.2.2.1,r7.2.2.2.2.2.2.2.2.2.2.1,r7.2.2.2.2.2.2.2.2.2.2.2.2.2.2,r7.2.2.2.2.2.2.2.2.2.2.2.1),r7.2.2.2.2.2.2.2.2.2.2.2.2.1,r7.2.2.2.2.2.2.2.2.2.2.2.2.2.1,([]:List T7),([]:List T7))
abbrev Z13u:=Spec.shp Zsw Zyd Z4z
def Zif:Ctx:={ tb:=mkTb T2.tbl,fx:=[],sum:=[(0,4,Yat Zpe Znf (loop Zcx))],nt:=23,pin:=0,nr:=true,ys:=[] }
theorem Z50:Sound Tryz.prog 50 (Z13u) :=
 Sound.shp (C:=Zif) (fn:=Tryz.f50) (by kernel_rfl) (c:=bodyOf Tryz.f50) (by kernel_rfl) (by decide) (ctxOK mixed tbl_ok rfl trivial trivial) (SumOK.of ⟨(Yav (d:=.loop (loopOf 4 Tryz.f50)) (by kernel_rfl) Zcy),trivial⟩) (by kernel_rfl) Zsw Zyd rfl (by decide) (by decide) rfl (by decide) rfl Z4z (fun x=>by kernel_rfl)
abbrev Zpj:Shape:={ sl:=[(1,(.ptr 0 [])),(2,(.ptr 1 [])),(4,(.ptr 2 [])),(15,(.hole y0)),(16,(.hole (.int .i64))),(17,(.hole (.int .i64)))],bl:=bl_22,ts:=[y0,(.int .i64),(.int .i64),y39,(.int .i64),(.int .i64),(.int .i64),y4,y39,y4,y18,y41],pin:=0 }
abbrev Znk:List (ETag × Shape):=[(.exit 0,{ sl:=[(1,(.ptr 0 [])),(2,(.ptr 1 [])),(4,(.ptr 2 []))],bl:=bl_22,ts:=[y39,(.int .i64),(.int .i64),(.int .i64),y4,y39,y4,y18,y41],pin:=0 })]
def Zd7 (x:(List Int × Int × Int × T47 × Int × Int × Int × (Int × Int) × T47 × (Int × Int) × List (T17) × List T43)):Option ((List Int × Int × Int × T47 × Int × Int × Int × (Int × Int) × T47 × (Int × Int) × List (T17) × List T43) ⊕ (T47 × Int × Int × Int × (Int × Int) × T47 × (Int × Int) × List (T17) × List T43)) :=
 bif (decide (x.2.2.1 < x.2.1)) then
 bif (inb x.2.2.1 (List.length x.1)) then
 (Z4z (getAt (0:Int) x.1 (toN x.2.2.1))).bind fun r6 =>
 bif (fits ((List.length x.2.2.2.2.2.2.2.2.2.2.2)+(List.length (r6 :: ([]:List (Int × T41)))))) then
 some (.inl (x.1,x.2.1,(IntKind.wrap .i64 (x.2.2.1+(1:Int))),x.2.2.2.1,x.2.2.2.2.1,x.2.2.2.2.2.1,x.2.2.2.2.2.2.1,x.2.2.2.2.2.2.2.1,x.2.2.2.2.2.2.2.2.1,x.2.2.2.2.2.2.2.2.2.1,x.2.2.2.2.2.2.2.2.2.2.1,(x.2.2.2.2.2.2.2.2.2.2.2++(r6 :: ([]:List (Int × T41))))))
 else
 none
 else
 none
 else
 some (.inr (x.2.2.2.1,x.2.2.2.2.1,x.2.2.2.2.2.1,x.2.2.2.2.2.2.1,x.2.2.2.2.2.2.2.1,x.2.2.2.2.2.2.2.2.1,x.2.2.2.2.2.2.2.2.2.1,x.2.2.2.2.2.2.2.2.2.2.1,x.2.2.2.2.2.2.2.2.2.2.2))
def Zj2:Ctx:={ tb:=mkTb T2.tbl,fx:=[(50,[],Z13u)],sum:=[],nt:=63,pin:=0,nr:=true,ys:=[] }
theorem Zd8:CSound Tryz.prog ⟨63,0,true⟩ (.loop (loopOf 4 Tryz.f18)) (Yat Zpj Znk (loop Zd7)) :=
 Y89 (C:=Zj2) (ctxOK mixed tbl_ok rfl ⟨Z50,trivial⟩ trivial) (SumOK.of trivial) Zpj Znk rfl rfl Zd7 (fun x=>by kernel_rfl)
abbrev Zpk:Shape:={ sl:=[(1,(.ptr 0 [])),(2,(.ptr 1 [])),(4,(.ptr 2 [])),(7,(.hole (.int .i64)))],bl:=bl_23,ts:=[(.int .i64),y39,(.int .i64),(.int .i64),(.int .i64),y4,y39,y4,y18,y41,y19],pin:=0 }
abbrev Znl:List (ETag × Shape):=[(.exit 2,{ sl:=[(1,(.ptr 0 [])),(2,(.ptr 1 [])),(4,(.ptr 2 []))],bl:=bl_23,ts:=[y39,(.int .i64),(.int .i64),(.int .i64),y4,y39,y4,y18,y41,y19],pin:=0 })]
def Zd9 (x:(Int × T47 × Int × Int × Int × (Int × Int) × T47 × (Int × Int) × List (T17) × List T43 × List (T18))):Option ((Int × T47 × Int × Int × Int × (Int × Int) × T47 × (Int × Int) × List (T17) × List T43 × List (T18)) ⊕ (T47 × Int × Int × Int × (Int × Int) × T47 × (Int × Int) × List (T17) × List T43 × List (T18))) :=
 bif (decide (x.1 < x.2.1.2.1)) then
 bif (fits ((List.length x.2.2.2.2.2.2.2.2.2.2)+(List.length ((false,([]:List T7)) :: ([]:List T22))))) then
 some (.inl ((IntKind.wrap .i64 (x.1+(1:Int))),x.2.1,x.2.2.1,x.2.2.2.1,x.2.2.2.2.1,x.2.2.2.2.2.1,x.2.2.2.2.2.2.1,x.2.2.2.2.2.2.2.1,x.2.2.2.2.2.2.2.2.1,x.2.2.2.2.2.2.2.2.2.1,(x.2.2.2.2.2.2.2.2.2.2++((false,([]:List T7)) :: ([]:List T22)))))
 else
 none
 else
 some (.inr (x.2.1,x.2.2.1,x.2.2.2.1,x.2.2.2.2.1,x.2.2.2.2.2.1,x.2.2.2.2.2.2.1,x.2.2.2.2.2.2.2.1,x.2.2.2.2.2.2.2.2.1,x.2.2.2.2.2.2.2.2.2.1,x.2.2.2.2.2.2.2.2.2.2))
def Zj3:Ctx:={ tb:=mkTb T2.tbl,fx:=[(50,[],Z13u)],sum:=[(0,4,Yat Zpj Znk (loop Zd7))],nt:=63,pin:=0,nr:=true,ys:=[] }
theorem Zda:CSound Tryz.prog ⟨63,0,true⟩ (.loop (loopOf 9 Tryz.f18)) (Yat Zpk Znl (loop Zd9)) :=
 Y89 (C:=Zj3) (ctxOK mixed tbl_ok rfl ⟨Z50,trivial⟩ trivial) (SumOK.of ⟨(Yau (by kernel_rfl)),trivial⟩) Zpk Znl rfl rfl Zd9 (fun x=>by kernel_rfl)
abbrev Zpi:Shape:={ sl:=[(1,(.ptr 0 [])),(2,(.ptr 1 [])),(4,(.ptr 2 [])),(8,(.hole (.int .i64)))],bl:=[.var (.hole y39),.var (.pr (.pr .nl (.pr (.hole (.int .i64)) (.pr (.hole (.int .i64)) (.pr (.hole (.int .i64)) (.pr .nl .nl))))) (.pr .nl (.pr .nl (.pr .nl (.pr .nl (.hole y4)))))),.var (.pr (.hole y39) (.pr (.sl 3) (.pr (.sl 4) (.pr (.sl 5) (.pr (.sl 6) (.hole y4)))))),.row y12,.row y40,.row y15,.row y23],ts:=[(.int .i64),y39,(.int .i64),(.int .i64),(.int .i64),y4,y39,y4,y18,y41,y19,y26],pin:=0 }
abbrev Znj:List (ETag × Shape):=[(.exit 4,{ sl:=[(2,(.ptr 0 [])),(4,(.ptr 1 []))],bl:=bl_1,ts:=ts_9,pin:=0 })]
def Zd5 (x:(Int × T47 × Int × Int × Int × (Int × Int) × T47 × (Int × Int) × List (T17) × List T43 × List (T18) × List T29)):Option ((Int × T47 × Int × Int × Int × (Int × Int) × T47 × (Int × Int) × List (T17) × List T43 × List (T18) × List T29) ⊕ (Int × Int × Int × (Int × Int) × T47 × (Int × Int) × List (T17) × List T43 × List (T18) × List T29)) :=
 bif (decide (x.1 < x.2.1.2.2.1)) then
 bif (fits ((List.length x.2.2.2.2.2.2.2.2.2.2.2)+(List.length (((0:Int),(0:Int),([]:List T7)) :: ([]:List (Int × T14)))))) then
 some (.inl ((IntKind.wrap .i64 (x.1+(1:Int))),x.2.1,x.2.2.1,x.2.2.2.1,x.2.2.2.2.1,x.2.2.2.2.2.1,x.2.2.2.2.2.2.1,x.2.2.2.2.2.2.2.1,x.2.2.2.2.2.2.2.2.1,x.2.2.2.2.2.2.2.2.2.1,x.2.2.2.2.2.2.2.2.2.2.1,(x.2.2.2.2.2.2.2.2.2.2.2++(((0:Int),(0:Int),([]:List T7)) :: ([]:List (Int × T14))))))
 else
 none
 else
 some (.inr (x.2.2.1,x.2.2.2.1,x.2.2.2.2.1,x.2.2.2.2.2.1,x.2.2.2.2.2.2.1,x.2.2.2.2.2.2.2.1,x.2.2.2.2.2.2.2.2.1,x.2.2.2.2.2.2.2.2.2.1,x.2.2.2.2.2.2.2.2.2.2.1,x.2.2.2.2.2.2.2.2.2.2.2))
def Zj1:Ctx:={ tb:=mkTb T2.tbl,fx:=[(50,[],Z13u)],sum:=[(0,4,Yat Zpj Znk (loop Zd7)),(0,9,Yat Zpk Znl (loop Zd9))],nt:=63,pin:=0,nr:=true,ys:=[] }
theorem Zd6:CSound Tryz.prog ⟨63,0,true⟩ (.loop (loopOf 13 Tryz.f18)) (Yat Zpi Znj (loop Zd5)) :=
 Y89 (C:=Zj1) (ctxOK mixed tbl_ok rfl ⟨Z50,trivial⟩ trivial) (SumOK.of ⟨(Yau (by kernel_rfl)),(Yau (by kernel_rfl)),trivial⟩) Zpi Znj rfl rfl Zd5 (fun x=>by kernel_rfl)
abbrev Zty:Shape:={ sl:=sl_0,bl:=[],ts:=ts_0,pin:=0 }
abbrev Zzf:Shape:={ sl:=[(0,(.hole y24))],bl:=[],ts:=[y24],pin:=0 }
def Z73 (x:T4):Option (T20) :=
 some (x.1,x.2.1,x.2.2,(0:Int),(Int.negSucc 0))
abbrev Z14w:=Spec.shp Zty Zzf Z73
def Zjz:Ctx:={ tb:=mkTb T2.tbl,fx:=[],sum:=[],nt:=11,pin:=0,nr:=true,ys:=[] }
theorem Z74:Sound Tryz.prog 53 (Z14w) :=
 Sound.shp (C:=Zjz) (fn:=Tryz.f53) (by kernel_rfl) (c:=bodyOf Tryz.f53) (by kernel_rfl) (by decide) (ctxOK mixed tbl_ok rfl trivial trivial) (SumOK.of trivial) (by kernel_rfl) Zty Zzf rfl (by decide) (by decide) rfl (by decide) rfl Z73 (fun x=>by kernel_rfl)
abbrev Zu6:Shape:={ sl:=[(0,(.hole y46)),(1,(.hole y24))],bl:=[],ts:=[y46,y24],pin:=0 }
abbrev Zzn:Shape:={ sl:=sl_39,bl:=[],ts:=[y46],pin:=0 }
def Z7j (x:(T63 × T20)):Option (T63) :=
 bif (fits ((List.length ([]:List T20))+(List.length x.1.2))) then
 bif (fits ((List.length (([]:List T20)++x.1.2))+(List.length (x.2 :: ([]:List T20))))) then
 some ((x.1.1.1,x.1.1.2.1,x.1.1.2.2.1,x.1.1.2.2.2.1,x.1.1.2.2.2.2.1,(IntKind.wrap .i64 (x.1.1.2.2.2.2.2.1+(1:Int))),x.1.1.2.2.2.2.2.2),((([]:List T20)++x.1.2)++(x.2 :: ([]:List T20))))
 else
 none
 else
 none
abbrev Z154:=Spec.shp Zu6 Zzn Z7j
def Zkb:Ctx:={ tb:=mkTb T2.tbl,fx:=[],sum:=[],nt:=23,pin:=0,nr:=true,ys:=[] }
theorem Z7k:Sound Tryz.prog 52 (Z154) :=
 Sound.shp (C:=Zkb) (fn:=Tryz.f52) (by kernel_rfl) (c:=bodyOf Tryz.f52) (by kernel_rfl) (by decide) (ctxOK mixed tbl_ok rfl trivial trivial) (SumOK.of trivial) (by kernel_rfl) Zu6 Zzn rfl (by decide) (by decide) rfl (by decide) rfl Z7j (fun x=>by kernel_rfl)
abbrev Zpr:Shape:={ sl:=[(1,(.hole (.int .i64))),(3,(.ptr 0 [])),(5,(.ptr 1 [])),(6,(.ptr 2 [])),(7,(.sl 3)),(13,(.hole y18)),(14,(.hole (.int .i64))),(15,(.hole (.int .i64)))],bl:=[.var (.hole y46),.var (.hole y12),.var (.pr (.pr (.pr .nl (.pr (.hole (.int .i64)) (.pr (.hole (.int .i64)) (.pr (.hole (.int .i64)) (.pr .nl .nl))))) (.pr .nl (.pr .nl (.pr .nl (.pr .nl (.hole y4)))))) .nl),.row y12],ts:=[(.int .i64),y18,(.int .i64),(.int .i64),y46,y12,(.int .i64),(.int .i64),(.int .i64),y4,y18],pin:=0 }
abbrev Zns:List (ETag × Shape):=[(.exit 0,{ sl:=sl_40,bl:=[.var (.hole y46),.var (.pr (.pr (.pr .nl (.pr (.hole (.int .i64)) (.pr (.hole (.int .i64)) (.pr (.hole (.int .i64)) (.pr .nl .nl))))) (.pr .nl (.pr .nl (.pr .nl (.pr .nl (.hole y4)))))) .nl),.row y12],ts:=[y46,(.int .i64),(.int .i64),(.int .i64),y4,y18],pin:=0 })]
def Zdn (x:(Int × List (T17) × Int × Int × T63 × T17 × Int × Int × Int × (Int × Int) × List (T17))):Option ((Int × List (T17) × Int × Int × T63 × T17 × Int × Int × Int × (Int × Int) × List (T17)) ⊕ (T63 × Int × Int × Int × (Int × Int) × List (T17))) :=
 bif (decide (x.2.2.2.1 < x.2.2.1)) then
 bif (inb x.2.2.2.1 (List.length x.2.1)) then
 bif (x.2.2.2.1 == x.1) then
 bif (fits ((List.length x.2.2.2.2.2.2.2.2.2.2)+(List.length (x.2.2.2.2.2.1 :: ([]:List T17))))) then
 some (.inl (x.1,x.2.1,x.2.2.1,(IntKind.wrap .i64 (x.2.2.2.1+(1:Int))),x.2.2.2.2.1,x.2.2.2.2.2.1,x.2.2.2.2.2.2.1,x.2.2.2.2.2.2.2.1,x.2.2.2.2.2.2.2.2.1,x.2.2.2.2.2.2.2.2.2.1,(x.2.2.2.2.2.2.2.2.2.2++(x.2.2.2.2.2.1 :: ([]:List T17)))))
 else
 none
 else
 bif (fits ((List.length x.2.2.2.2.2.2.2.2.2.2)+(List.length ((getAt ((0:Int),(0:Int),(0:Int),false) x.2.1 (toN x.2.2.2.1)) :: ([]:List T17))))) then
 some (.inl (x.1,x.2.1,x.2.2.1,(IntKind.wrap .i64 (x.2.2.2.1+(1:Int))),x.2.2.2.2.1,x.2.2.2.2.2.1,x.2.2.2.2.2.2.1,x.2.2.2.2.2.2.2.1,x.2.2.2.2.2.2.2.2.1,x.2.2.2.2.2.2.2.2.2.1,(x.2.2.2.2.2.2.2.2.2.2++((getAt ((0:Int),(0:Int),(0:Int),false) x.2.1 (toN x.2.2.2.1)) :: ([]:List T17)))))
 else
 none
 else
 none
 else
 some (.inr (x.2.2.2.2.1,x.2.2.2.2.2.2.1,x.2.2.2.2.2.2.2.1,x.2.2.2.2.2.2.2.2.1,x.2.2.2.2.2.2.2.2.2.1,x.2.2.2.2.2.2.2.2.2.2))
def Zjl:Ctx:={ tb:=mkTb T2.tbl,fx:=[],sum:=[],nt:=33,pin:=0,nr:=true,ys:=[] }
theorem Zdo:CSound Tryz.prog ⟨33,0,true⟩ (.loop (loopOf 4 Tryz.f105)) (Yat Zpr Zns (loop Zdn)) :=
 Y89 (C:=Zjl) (ctxOK mixed tbl_ok rfl trivial trivial) (SumOK.of trivial) Zpr Zns rfl rfl Zdn (fun x=>by kernel_rfl)
abbrev Zto:Shape:={ sl:=[(0,(.hole y46)),(1,(.hole (.int .i64))),(2,(.hole y12))],bl:=[],ts:=[y46,(.int .i64),y12],pin:=0 }
abbrev Zz5:Shape:={ sl:=sl_39,bl:=[],ts:=[y46],pin:=0 }
def Z6j (x:(T63 × Int × T17)):Option (T63) :=
 (loop Zdn (x.2.1,x.1.1.2.1,(((List.length x.1.1.2.1):Nat):Int),(0:Int),x.1,x.2.2,(0:Int),(0:Int),(0:Int),((0:Int),(0:Int)),([]:List T17))).bind fun r12 =>
 some ((r12.1.1.1,r12.2.2.2.2.2,r12.1.1.2.2),r12.1.2)
abbrev Z14m:=Spec.shp Zto Zz5 Z6j
def Zjk:Ctx:={ tb:=mkTb T2.tbl,fx:=[],sum:=[(0,4,Yat Zpr Zns (loop Zdn))],nt:=33,pin:=0,nr:=true,ys:=[] }
theorem Z6k:Sound Tryz.prog 105 (Z14m) :=
 Sound.shp (C:=Zjk) (fn:=Tryz.f105) (by kernel_rfl) (c:=bodyOf Tryz.f105) (by kernel_rfl) (by decide) (ctxOK mixed tbl_ok rfl trivial trivial) (SumOK.of ⟨(Yav (d:=.loop (loopOf 4 Tryz.f105)) (by kernel_rfl) Zdo),trivial⟩) (by kernel_rfl) Zto Zz5 rfl (by decide) (by decide) rfl (by decide) rfl Z6j (fun x=>by kernel_rfl)
abbrev Zu7:Shape:={ sl:=[(0,(.hole y46)),(1,(.hole (.int .i64))),(2,(.hole (.int .i64)))],bl:=[],ts:=[y46,(.int .i64),(.int .i64)],pin:=0 }
abbrev Zzo:Shape:={ sl:=sl_39,bl:=[],ts:=[y46],pin:=0 }
def Z7l (x:(T63 × Int × Int)):Option (T63) :=
 bif (inb x.2.1 (List.length x.1.1.2.1)) then
 bif (inb (getAt ((0:Int),(0:Int),(0:Int),false) x.1.1.2.1 (toN x.2.1)).1 (List.length x.1.1.1.2.2.2.2.2)) then
 bif (decide (x.2.2 ≥ (((List.length (getAt ([]:List T7) x.1.1.1.2.2.2.2.2 (toN (getAt ((0:Int),(0:Int),(0:Int),false) x.1.1.2.1 (toN x.2.1)).1))):Nat):Int))) then
 (Z6j (x.1,x.2.1,(getAt ((0:Int),(0:Int),(0:Int),false) x.1.1.2.1 (toN x.2.1)).1,x.2.2,(2:Int),(getAt ((0:Int),(0:Int),(0:Int),false) x.1.1.2.1 (toN x.2.1)).2.2.2)).bind fun r11 =>
 some r11
 else
 (Z6j (x.1,x.2.1,(getAt ((0:Int),(0:Int),(0:Int),false) x.1.1.2.1 (toN x.2.1)).1,x.2.2,(0:Int),(getAt ((0:Int),(0:Int),(0:Int),false) x.1.1.2.1 (toN x.2.1)).2.2.2)).bind fun r11 =>
 some r11
 else
 none
 else
 none
abbrev Z155:=Spec.shp Zu7 Zzo Z7l
def Zkc:Ctx:={ tb:=mkTb T2.tbl,fx:=[(105,[],Z14m)],sum:=[],nt:=33,pin:=0,nr:=true,ys:=[] }
theorem Z7m:Sound Tryz.prog 51 (Z155) :=
 Sound.shp (C:=Zkc) (fn:=Tryz.f51) (by kernel_rfl) (c:=bodyOf Tryz.f51) (by kernel_rfl) (by decide) (ctxOK mixed tbl_ok rfl ⟨Z6k,trivial⟩ trivial) (SumOK.of trivial) (by kernel_rfl) Zu7 Zzo rfl (by decide) (by decide) rfl (by decide) rfl Z7l (fun x=>by kernel_rfl)
abbrev Zpz:Shape:={ sl:=[(1,(.ptr 0 [])),(2,(.ptr 1 [])),(3,(.hole .bool)),(4,(.hole .bool)),(8,(.hole y18)),(9,(.hole (.int .i64))),(10,(.hole (.int .i64)))],bl:=bl_24,ts:=[.bool,.bool,y18,(.int .i64),(.int .i64),y45,(.int .i64),(.int .i64),(.int .i64),y4],pin:=0 }
abbrev Zo0:List (ETag × Shape):=[(.exit 0,{ sl:=[(1,(.ptr 0 [])),(2,(.ptr 1 [])),(3,(.hole .bool)),(4,(.hole .bool))],bl:=bl_24,ts:=[.bool,.bool,y45,(.int .i64),(.int .i64),(.int .i64),y4],pin:=0 })]
def Ze3 (x:(Bool × Bool × List (T17) × Int × Int × (T47 × T61) × Int × Int × Int × (Int × Int))):Option ((Bool × Bool × List (T17) × Int × Int × (T47 × T61) × Int × Int × Int × (Int × Int)) ⊕ (Bool × Bool × (T47 × T61) × Int × Int × Int × (Int × Int))) :=
 bif (decide (x.2.2.2.2.1 < x.2.2.2.1)) then
 bif (inb x.2.2.2.2.1 (List.length x.2.2.1)) then
 bif x.1 then
 bif x.2.1 then
 some (.inl (true,((getAt ((0:Int),(0:Int),(0:Int),false) x.2.2.1 (toN x.2.2.2.2.1)).2.2.1 == (2:Int)),x.2.2.1,x.2.2.2.1,(IntKind.wrap .i64 (x.2.2.2.2.1+(1:Int))),x.2.2.2.2.2.1,x.2.2.2.2.2.2.1,x.2.2.2.2.2.2.2.1,x.2.2.2.2.2.2.2.2.1,x.2.2.2.2.2.2.2.2.2))
 else
 some (.inl (true,false,x.2.2.1,x.2.2.2.1,(IntKind.wrap .i64 (x.2.2.2.2.1+(1:Int))),x.2.2.2.2.2.1,x.2.2.2.2.2.2.1,x.2.2.2.2.2.2.2.1,x.2.2.2.2.2.2.2.2.1,x.2.2.2.2.2.2.2.2.2))
 else
 bif x.2.1 then
 some (.inl (((getAt ((0:Int),(0:Int),(0:Int),false) x.2.2.1 (toN x.2.2.2.2.1)).2.2.1 == (0:Int)),((getAt ((0:Int),(0:Int),(0:Int),false) x.2.2.1 (toN x.2.2.2.2.1)).2.2.1 == (2:Int)),x.2.2.1,x.2.2.2.1,(IntKind.wrap .i64 (x.2.2.2.2.1+(1:Int))),x.2.2.2.2.2.1,x.2.2.2.2.2.2.1,x.2.2.2.2.2.2.2.1,x.2.2.2.2.2.2.2.2.1,x.2.2.2.2.2.2.2.2.2))
 else
 some (.inl (((getAt ((0:Int),(0:Int),(0:Int),false) x.2.2.1 (toN x.2.2.2.2.1)).2.2.1 == (0:Int)),false,x.2.2.1,x.2.2.2.1,(IntKind.wrap .i64 (x.2.2.2.2.1+(1:Int))),x.2.2.2.2.2.1,x.2.2.2.2.2.2.1,x.2.2.2.2.2.2.2.1,x.2.2.2.2.2.2.2.2.1,x.2.2.2.2.2.2.2.2.2))
 else
 none
 else
 some (.inr (x.1,x.2.1,x.2.2.2.2.2.1,x.2.2.2.2.2.2.1,x.2.2.2.2.2.2.2.1,x.2.2.2.2.2.2.2.2.1,x.2.2.2.2.2.2.2.2.2))
def Zk8:Ctx:={ tb:=mkTb T2.tbl,fx:=[],sum:=[],nt:=38,pin:=0,nr:=true,ys:=[] }
theorem Ze4:CSound Tryz.prog ⟨38,0,true⟩ (.loop (loopOf 5 Tryz.f54)) (Yat Zpz Zo0 (loop Ze3)) :=
 Y89 (C:=Zk8) (ctxOK mixed tbl_ok rfl trivial trivial) (SumOK.of trivial) Zpz Zo0 rfl rfl Ze3 (fun x=>by kernel_rfl)
abbrev Zu3:Shape:={ sl:=[(0,(.hole y45))],bl:=[],ts:=[y45],pin:=0 }
abbrev Zzk:Shape:={ sl:=[(0,(.hole y45))],bl:=[],ts:=[y45],pin:=0 }
def Z7d (x:T62):Option T62 :=
 (loop Ze3 (false,true,x.2.1,(((List.length x.2.1):Nat):Int),(0:Int),x,(0:Int),(0:Int),(0:Int),(0:Int),(0:Int))).bind fun r12 =>
 bif (r12.2.2.1.2.2.2.2.2.2 != (0:Int)) then
 some r12.2.2.1
 else
 bif r12.1 then
 some r12.2.2.1
 else
 bif r12.2.1 then
 some (r12.2.2.1.1,r12.2.2.1.2.1,r12.2.2.1.2.2.1,r12.2.2.1.2.2.2.1,r12.2.2.1.2.2.2.2.1,r12.2.2.1.2.2.2.2.2.1,(1:Int))
 else
 some (r12.2.2.1.1,r12.2.2.1.2.1,r12.2.2.1.2.2.1,r12.2.2.1.2.2.2.1,r12.2.2.1.2.2.2.2.1,r12.2.2.1.2.2.2.2.2.1,(2:Int))
abbrev Z151:=Spec.shp Zu3 Zzk Z7d
def Zk7:Ctx:={ tb:=mkTb T2.tbl,fx:=[],sum:=[(0,5,Yat Zpz Zo0 (loop Ze3))],nt:=38,pin:=0,nr:=true,ys:=[] }
theorem Z7e:Sound Tryz.prog 54 (Z151) :=
 Sound.shp (C:=Zk7) (fn:=Tryz.f54) (by kernel_rfl) (c:=bodyOf Tryz.f54) (by kernel_rfl) (by decide) (ctxOK mixed tbl_ok rfl trivial trivial) (SumOK.of ⟨(Yav (d:=.loop (loopOf 5 Tryz.f54)) (by kernel_rfl) Ze4),trivial⟩) (by kernel_rfl) Zu3 Zzk rfl (by decide) (by decide) rfl (by decide) rfl Z7d (fun x=>by kernel_rfl)
abbrev Ztd:Shape:={ sl:=sl_6,bl:=[],ts:=[y39],pin:=0 }
abbrev Zyu:Shape:={ sl:=[(0,(.hole y45)),(1,(.hole y27))],bl:=[],ts:=[y45,y27],pin:=0 }
def Z5x (x:(T47)):Option T63 :=
 (loop Zd7 (x.1,(((List.length x.1):Nat):Int),(0:Int),x,(0:Int),(0:Int),(0:Int),((0:Int),(0:Int)),x,((0:Int),(0:Int)),(((0:Int),(0:Int),(0:Int),false) :: ([]:List T17)),([]:List (Int × T41)))).bind fun r5 =>
 (loop Zd9 ((0:Int),r5.1,r5.2.1,r5.2.2.1,r5.2.2.2.1,r5.2.2.2.2.1,r5.2.2.2.2.2.1,r5.2.2.2.2.2.2.1,r5.2.2.2.2.2.2.2.1,r5.2.2.2.2.2.2.2.2,([]:List T22))).bind fun r6 =>
 (loop Zd5 ((0:Int),r6.1,r6.2.1,r6.2.2.1,r6.2.2.2.1,r6.2.2.2.2.1,r6.2.2.2.2.2.1,r6.2.2.2.2.2.2.1,r6.2.2.2.2.2.2.2.1,r6.2.2.2.2.2.2.2.2.1,r6.2.2.2.2.2.2.2.2.2,([]:List (Int × T14)))).bind fun r7 =>
 (Z73 ((0:Int),(0:Int),(0:Int))).bind fun r8 =>
 (Z7j (((r7.2.2.2.2.1,r7.2.2.2.2.2.2.1,r7.2.2.2.2.2.2.2.1,r7.2.2.2.2.2.2.2.2.1,r7.2.2.2.2.2.2.2.2.2,r7.2.2.2.2.2.1),([]:List T20)),r8)).bind fun r9 =>
 (Z7l (r9,(0:Int),(0:Int))).bind fun r10 =>
 (Z7d r10.1).bind fun r11 =>
 some (r11,r10.2)
abbrev Z14b:=Spec.shp Ztd Zyu Z5x
def Zj0:Ctx:={ tb:=mkTb T2.tbl,fx:=[(50,[],Z13u),(53,[],Z14w),(52,[2000000,2000000,2000000,2000000],Z154),(51,[],Z155),(54,[],Z151)],sum:=[(0,4,Yat Zpj Znk (loop Zd7)),(0,9,Yat Zpk Znl (loop Zd9)),(0,13,Yat Zpi Znj (loop Zd5))],nt:=63,pin:=0,nr:=true,ys:=[] }
theorem Z5y:Sound Tryz.prog 18 (Z14b) :=
 Sound.shp (C:=Zj0) (fn:=Tryz.f18) (by kernel_rfl) (c:=bodyOf Tryz.f18) (by kernel_rfl) (by decide) (ctxOK mixed tbl_ok rfl ⟨Z50,Z74,Z7k,Z7m,Z7e,trivial⟩ trivial) (SumOK.of ⟨(Yav (d:=.loop (loopOf 4 Tryz.f18)) (by kernel_rfl) Zd8),(Yav (d:=.loop (loopOf 9 Tryz.f18)) (by kernel_rfl) Zda),(Yav (d:=.loop (loopOf 13 Tryz.f18)) (by kernel_rfl) Zd6),trivial⟩) (by kernel_rfl) Ztd Zyu rfl (by decide) (by decide) rfl (by decide) rfl Z5x (fun x=>by kernel_rfl)
abbrev Zph:Shape:={ sl:=[(0,(.hole y27)),(1,(.hole y27)),(12,(.hole (.int .i64))),(13,(.hole (.int .i64)))],bl:=[],ts:=[y27,y27,(.int .i64),(.int .i64)],pin:=0 }
abbrev Zni:List (ETag × Shape):=[(.ret,{ sl:=sl_35,bl:=[],ts:=ts_1,pin:=0 }),(.exit 0,{ sl:=[],bl:=[],ts:=[],pin:=0 })]
def Zd3 (x:(List (T20) × List (T20) × Int × Int)):Option ((List (T20) × List (T20) × Int × Int) ⊕ ((Bool) ⊕ Unit)) :=
 bif (decide (x.2.2.2 < x.2.2.1)) then
 bif (inb x.2.2.2 (List.length x.1)) then
 bif (inb x.2.2.2 (List.length x.2.1)) then
 bif (Bool.not (((getAt ((0:Int),(0:Int),(0:Int),(0:Int),(0:Int)) x.1 (toN x.2.2.2)).1 == (getAt ((0:Int),(0:Int),(0:Int),(0:Int),(0:Int)) x.2.1 (toN x.2.2.2)).1) && (((getAt ((0:Int),(0:Int),(0:Int),(0:Int),(0:Int)) x.1 (toN x.2.2.2)).2.1 == (getAt ((0:Int),(0:Int),(0:Int),(0:Int),(0:Int)) x.2.1 (toN x.2.2.2)).2.1) && (((getAt ((0:Int),(0:Int),(0:Int),(0:Int),(0:Int)) x.1 (toN x.2.2.2)).2.2.1 == (getAt ((0:Int),(0:Int),(0:Int),(0:Int),(0:Int)) x.2.1 (toN x.2.2.2)).2.2.1) && (((getAt ((0:Int),(0:Int),(0:Int),(0:Int),(0:Int)) x.1 (toN x.2.2.2)).2.2.2.1 == (getAt ((0:Int),(0:Int),(0:Int),(0:Int),(0:Int)) x.2.1 (toN x.2.2.2)).2.2.2.1) && ((getAt ((0:Int),(0:Int),(0:Int),(0:Int),(0:Int)) x.1 (toN x.2.2.2)).2.2.2.2 == (getAt ((0:Int),(0:Int),(0:Int),(0:Int),(0:Int)) x.2.1 (toN x.2.2.2)).2.2.2.2)))))) then
 some (.inr (.inl false))
 else
 some (.inl (x.1,x.2.1,x.2.2.1,(IntKind.wrap .i64 (x.2.2.2+(1:Int)))))
 else
 none
 else
 none
 else
 some (.inr (.inr ()))
def Ziz:Ctx:={ tb:=mkTb T2.tbl,fx:=[],sum:=[],nt:=26,pin:=0,nr:=true,ys:=[] }
theorem Zd4:CSound Tryz.prog ⟨26,0,true⟩ (.loop (loopOf 5 Tryz.f19)) (Yat Zph Zni (loop Zd3)) :=
 Y89 (C:=Ziz) (ctxOK mixed tbl_ok rfl trivial trivial) (SumOK.of trivial) Zph Zni rfl rfl Zd3 (fun x=>by kernel_rfl)
abbrev Ztc:Shape:={ sl:=[(0,(.hole y27)),(1,(.hole y27))],bl:=[],ts:=[y27,y27],pin:=0 }
abbrev Zyt:Shape:={ sl:=sl_1,bl:=[],ts:=ts_1,pin:=0 }
def Z5v (x:(List (T20) × List (T20))):Option (Bool) :=
 bif ((((List.length x.1):Nat):Int) != (((List.length x.2):Nat):Int)) then
 some false
 else
 (loop Zd3 (x.1,x.2,(((List.length x.1):Nat):Int),(0:Int))).bind fun r7 =>
 match r7 with
 | .inl y8 =>
 some y8
 | .inr y8 =>
 some true
abbrev Z14a:=Spec.shp Ztc Zyt Z5v
def Ziy:Ctx:={ tb:=mkTb T2.tbl,fx:=[],sum:=[(0,5,Yat Zph Zni (loop Zd3))],nt:=26,pin:=0,nr:=true,ys:=[] }
theorem Z5w:Sound Tryz.prog 19 (Z14a) :=
 Sound.shp (C:=Ziy) (fn:=Tryz.f19) (by kernel_rfl) (c:=bodyOf Tryz.f19) (by kernel_rfl) (by decide) (ctxOK mixed tbl_ok rfl trivial trivial) (SumOK.of ⟨(Yav (d:=.loop (loopOf 5 Tryz.f19)) (by kernel_rfl) Zd4),trivial⟩) (by kernel_rfl) Ztc Zyt rfl (by decide) (by decide) rfl (by decide) rfl Z5v (fun x=>by kernel_rfl)
abbrev Ztq:Shape:={ sl:=[(0,(.hole y45)),(1,(.hole (.int .i64)))],bl:=[],ts:=[y45,(.int .i64)],pin:=0 }
abbrev Zz7:Shape:={ sl:=sl_17,bl:=[],ts:=[y5],pin:=0 }
def Z6n (x:((T47 × T61) × Int)):Option (T7) :=
 bif (inb x.2 (List.length x.1.2.1)) then
 bif (inb (getAt ((0:Int),(0:Int),(0:Int),false) x.1.2.1 (toN x.2)).1 (List.length x.1.1.2.2.2.2.2)) then
 bif (inb (getAt ((0:Int),(0:Int),(0:Int),false) x.1.2.1 (toN x.2)).2.1 (List.length (getAt ([]:List T7) x.1.1.2.2.2.2.2 (toN (getAt ((0:Int),(0:Int),(0:Int),false) x.1.2.1 (toN x.2)).1)))) then
 some (getAt ((0:Int),(0:Int),(0:Int)) (getAt ([]:List T7) x.1.1.2.2.2.2.2 (toN (getAt ((0:Int),(0:Int),(0:Int),false) x.1.2.1 (toN x.2)).1)) (toN (getAt ((0:Int),(0:Int),(0:Int),false) x.1.2.1 (toN x.2)).2.1))
 else
 none
 else
 none
 else
 none
abbrev Z14o:=Spec.shp Ztq Zz7 Z6n
def Zjo:Ctx:={ tb:=mkTb T2.tbl,fx:=[],sum:=[],nt:=22,pin:=0,nr:=true,ys:=[] }
theorem Z6o:Sound Tryz.prog 55 (Z14o) :=
 Sound.shp (C:=Zjo) (fn:=Tryz.f55) (by kernel_rfl) (c:=bodyOf Tryz.f55) (by kernel_rfl) (by decide) (ctxOK mixed tbl_ok rfl trivial trivial) (SumOK.of trivial) (by kernel_rfl) Ztq Zz7 rfl (by decide) (by decide) rfl (by decide) rfl Z6n (fun x=>by kernel_rfl)
abbrev Zp1:Shape:={ sl:=[(1,(.hole (.int .i64))),(7,(.hole (.slice y5))),(8,(.hole (.int .i64))),(9,(.hole (.int .i64)))],bl:=[],ts:=[(.int .i64),(.slice y5),(.int .i64),(.int .i64)],pin:=0 }
abbrev Zn2:List (ETag × Shape):=[(.ret,{ sl:=sl_3,bl:=[],ts:=ts_2,pin:=0 }),(.exit 0,{ sl:=[],bl:=[],ts:=[],pin:=0 })]
def Zc7 (x:(Int × List (T7) × Int × Int)):Option ((Int × List (T7) × Int × Int) ⊕ ((Int) ⊕ Unit)) :=
 bif (decide (x.2.2.2 < x.2.2.1)) then
 bif (inb x.2.2.2 (List.length x.2.1)) then
 bif ((getAt ((0:Int),(0:Int),(0:Int)) x.2.1 (toN x.2.2.2)).1 != x.1) then
 some (.inr (.inl x.2.2.2))
 else
 some (.inl (x.1,x.2.1,x.2.2.1,(IntKind.wrap .i64 (x.2.2.2+(1:Int)))))
 else
 none
 else
 some (.inr (.inr ()))
def Zhp:Ctx:={ tb:=mkTb T2.tbl,fx:=[],sum:=[],nt:=20,pin:=0,nr:=true,ys:=[] }
theorem Zc8:CSound Tryz.prog ⟨20,0,true⟩ (.loop (loopOf 3 Tryz.f159)) (Yat Zp1 Zn2 (loop Zc7)) :=
 Y89 (C:=Zhp) (ctxOK mixed tbl_ok rfl trivial trivial) (SumOK.of trivial) Zp1 Zn2 rfl rfl Zc7 (fun x=>by kernel_rfl)
abbrev Zsi:Shape:={ sl:=sl_23,bl:=[],ts:=ts_12,pin:=0 }
abbrev Zxz:Shape:={ sl:=sl_2,bl:=[],ts:=ts_2,pin:=0 }
def Z47 (x:T15):Option (Int) :=
 (loop Zc7 (x.2,x.1,(((List.length x.1):Nat):Int),(0:Int))).bind fun r16 =>
 match r16 with
 | .inl y17 =>
 some y17
 | .inr y17 =>
 some (Int.negSucc 0)
abbrev Z13g:=Spec.shp Zsi Zxz Z47
def Zho:Ctx:={ tb:=mkTb T2.tbl,fx:=[],sum:=[(0,3,Yat Zp1 Zn2 (loop Zc7))],nt:=20,pin:=0,nr:=true,ys:=[] }
theorem Z48:Sound Tryz.prog 159 (Z13g) :=
 Sound.shp (C:=Zho) (fn:=Tryz.f159) (by kernel_rfl) (c:=bodyOf Tryz.f159) (by kernel_rfl) (by decide) (ctxOK mixed tbl_ok rfl trivial trivial) (SumOK.of ⟨(Yav (d:=.loop (loopOf 3 Tryz.f159)) (by kernel_rfl) Zc8),trivial⟩) (by kernel_rfl) Zsi Zxz rfl (by decide) (by decide) rfl (by decide) rfl Z47 (fun x=>by kernel_rfl)
abbrev Zsy:Shape:={ sl:=[(0,(.hole y40)),(1,(.hole .bool)),(2,(.hole (.int .i64)))],bl:=[],ts:=[y40,.bool,(.int .i64)],pin:=0 }
abbrev Zyf:Shape:={ sl:=sl_1,bl:=[],ts:=ts_1,pin:=0 }
def Z53 (x:((Int × T40) × Bool × Int)):Option (Bool) :=
 bif (x.1.1 == (Int.negSucc 0)) then
 some false
 else
 bif x.1.2.1 then
 some true
 else
 bif x.2.1 then
 (Z47 (x.1.2.2.2.2.2.2,x.2.2)).bind fun r15 =>
 bif (decide (r15 ≥ (0:Int))) then
 some true
 else
 some (decide (x.1.2.2.1.2.2.2 < x.1.1))
 else
 bif (decide (x.1.2.2.1.2.2.2 > (0:Int))) then
 some true
 else
 (Z47 (x.1.2.2.2.2.2.1,x.2.2)).bind fun r15 =>
 some (decide (r15 ≥ (0:Int)))
abbrev Z13w:=Spec.shp Zsy Zyf Z53
def Zii:Ctx:={ tb:=mkTb T2.tbl,fx:=[(159,[],Z13g)],sum:=[],nt:=37,pin:=0,nr:=true,ys:=[] }
theorem Z54:Sound Tryz.prog 106 (Z13w) :=
 Sound.shp (C:=Zii) (fn:=Tryz.f106) (by kernel_rfl) (c:=bodyOf Tryz.f106) (by kernel_rfl) (by decide) (ctxOK mixed tbl_ok rfl ⟨Z48,trivial⟩ trivial) (SumOK.of trivial) (by kernel_rfl) Zsy Zyf rfl (by decide) (by decide) rfl (by decide) rfl Z53 (fun x=>by kernel_rfl)
abbrev Zpw:Shape:={ sl:=[(1,(.hole (.int .i64))),(3,(.ptr 0 [])),(7,(.sl 1)),(12,(.hole (.slice y2))),(13,(.hole (.int .i64))),(14,(.hole (.int .i64)))],bl:=bl_13,ts:=ts_13,pin:=0 }
abbrev Znx:List (ETag × Shape):=[(.exit 0,{ sl:=[(7,(.sl 0))],bl:=[.row y4],ts:=[(.slice y4)],pin:=0 })]
def Zdx (x:T68):Option (T68 ⊕ (T6)) :=
 bif (decide (x.2.2.2.1 < x.2.2.1)) then
 bif (inb x.2.2.2.1 (List.length x.2.1)) then
 bif (inb (getAt (false,(0:Int)) x.2.1 (toN x.2.2.2.1)).2 (List.length x.2.2.2.2.1.2.2.1)) then
 (Z53 ((getAt ((0:Int),false,((0:Int),(0:Int),([]:List Int),(0:Int)),(0:Int),(0:Int),([]:List T7),([]:List T7)) x.2.2.2.2.1.2.2.1 (toN (getAt (false,(0:Int)) x.2.1 (toN x.2.2.2.1)).2)),(getAt (false,(0:Int)) x.2.1 (toN x.2.2.2.1)).1,x.1)).bind fun r14 =>
 bif r14 then
 bif (fits ((List.length x.2.2.2.2.2)+(List.length ((x.1,x.2.2.2.1) :: ([]:List (Int × Int)))))) then
 some (.inl (x.1,x.2.1,x.2.2.1,(IntKind.wrap .i64 (x.2.2.2.1+(1:Int))),x.2.2.2.2.1,(x.2.2.2.2.2++((x.1,x.2.2.2.1) :: ([]:List (Int × Int))))))
 else
 none
 else
 some (.inl (x.1,x.2.1,x.2.2.1,(IntKind.wrap .i64 (x.2.2.2.1+(1:Int))),x.2.2.2.2.1,x.2.2.2.2.2))
 else
 none
 else
 none
 else
 some (.inr x.2.2.2.2.2)
def Zk1:Ctx:={ tb:=mkTb T2.tbl,fx:=[(106,[],Z13w)],sum:=[],nt:=37,pin:=0,nr:=true,ys:=[] }
theorem Zdy:CSound Tryz.prog ⟨37,0,true⟩ (.loop (loopOf 4 Tryz.f56)) (Yat Zpw Znx (loop Zdx)) :=
 Y89 (C:=Zk1) (ctxOK mixed tbl_ok rfl ⟨Z54,trivial⟩ trivial) (SumOK.of trivial) Zpw Znx rfl rfl Zdx (fun x=>by kernel_rfl)
abbrev Ztz:Shape:={ sl:=[(0,(.hole y45)),(1,(.hole (.int .i64))),(2,(.hole y9))],bl:=[],ts:=[y45,(.int .i64),y9],pin:=0 }
abbrev Zzg:Shape:={ sl:=[(0,(.sl 0))],bl:=[.row y4],ts:=[(.slice y4)],pin:=0 }
def Z75 (x:((T47 × T61) × Int × T12)):Option T6 :=
 (loop Zdx (x.2.1,x.2.2.1,(((List.length x.2.2.1):Nat):Int),(0:Int),x.1,([]:List (Int × Int)))).bind fun r13 =>
 some r13
abbrev Z14x:=Spec.shp Ztz Zzg Z75
def Zk0:Ctx:={ tb:=mkTb T2.tbl,fx:=[(106,[],Z13w)],sum:=[(0,4,Yat Zpw Znx (loop Zdx))],nt:=37,pin:=0,nr:=true,ys:=[] }
theorem Z76:Sound Tryz.prog 56 (Z14x) :=
 Sound.shp (C:=Zk0) (fn:=Tryz.f56) (by kernel_rfl) (c:=bodyOf Tryz.f56) (by kernel_rfl) (by decide) (ctxOK mixed tbl_ok rfl ⟨Z54,trivial⟩ trivial) (SumOK.of ⟨(Yav (d:=.loop (loopOf 4 Tryz.f56)) (by kernel_rfl) Zdy),trivial⟩) (by kernel_rfl) Ztz Zzg rfl (by decide) (by decide) rfl (by decide) rfl Z75 (fun x=>by kernel_rfl)
abbrev Zpg:Shape:={ sl:=[(1,(.ptr 0 [])),(3,(.sl 1)),(10,(.hole y18)),(11,(.hole (.int .i64))),(12,(.hole (.int .i64)))],bl:=bl_13,ts:=[y18,(.int .i64),(.int .i64),y45,(.slice y4)],pin:=0 }
abbrev Znh:List (ETag × Shape):=[(.exit 0,{ sl:=[(3,(.sl 0))],bl:=[.row y4],ts:=[(.slice y4)],pin:=0 })]
def Zd1 (x:T67):Option (T67 ⊕ (T6)) :=
 bif (decide (x.2.2.1 < x.2.1)) then
 bif (inb x.2.2.1 (List.length x.1)) then
 bif (x.2.2.2.1.2.2.2.2.2.2 != (0:Int)) then
 some (.inl (x.1,x.2.1,(IntKind.wrap .i64 (x.2.2.1+(1:Int))),x.2.2.2.1,x.2.2.2.2))
 else
 bif ((getAt ((0:Int),(0:Int),(0:Int),false) x.1 (toN x.2.2.1)).2.2.1 != (0:Int)) then
 some (.inl (x.1,x.2.1,(IntKind.wrap .i64 (x.2.2.1+(1:Int))),x.2.2.2.1,x.2.2.2.2))
 else
 (Z6n (x.2.2.2.1,x.2.2.1)).bind fun r11 =>
 bif (r11.1 == (4:Int)) then
 bif (inb r11.2.1 (List.length x.2.2.2.1.1.2.2.2.2.1)) then
 (Z75 (x.2.2.2.1,x.2.2.1,(getAt (([]:List T0),false) x.2.2.2.1.1.2.2.2.2.1 (toN r11.2.1)))).bind fun r12 =>
 bif ((((List.length r12):Nat):Int) == (0:Int)) then
 bif (fits ((List.length r12)+(List.length ((x.2.2.1,(Int.negSucc 0)) :: ([]:List (Int × Int)))))) then
 bif (fits ((List.length x.2.2.2.2)+(List.length (r12++((x.2.2.1,(Int.negSucc 0)) :: ([]:List (Int × Int))))))) then
 some (.inl (x.1,x.2.1,(IntKind.wrap .i64 (x.2.2.1+(1:Int))),x.2.2.2.1,(x.2.2.2.2++(r12++((x.2.2.1,(Int.negSucc 0)) :: ([]:List (Int × Int)))))))
 else
 none
 else
 none
 else
 bif (fits ((List.length x.2.2.2.2)+(List.length r12))) then
 some (.inl (x.1,x.2.1,(IntKind.wrap .i64 (x.2.2.1+(1:Int))),x.2.2.2.1,(x.2.2.2.2++r12)))
 else
 none
 else
 none
 else
 bif (fits ((List.length x.2.2.2.2)+(List.length (([]:List (Int × Int))++((x.2.2.1,(Int.negSucc 0)) :: ([]:List (Int × Int))))))) then
 some (.inl (x.1,x.2.1,(IntKind.wrap .i64 (x.2.2.1+(1:Int))),x.2.2.2.1,(x.2.2.2.2++(([]:List (Int × Int))++((x.2.2.1,(Int.negSucc 0)) :: ([]:List (Int × Int)))))))
 else
 none
 else
 none
 else
 some (.inr x.2.2.2.2)
def Zix:Ctx:={ tb:=mkTb T2.tbl,fx:=[(55,[],Z14o),(56,[],Z14x)],sum:=[],nt:=55,pin:=0,nr:=true,ys:=[] }
theorem Zd2:CSound Tryz.prog ⟨55,0,true⟩ (.loop (loopOf 4 Tryz.f20)) (Yat Zpg Znh (loop Zd1)) :=
 Y89 (C:=Zix) (ctxOK mixed tbl_ok rfl ⟨Z6o,Z76,trivial⟩ trivial) (SumOK.of trivial) Zpg Znh rfl rfl Zd1 (fun x=>by kernel_rfl)
abbrev Ztb:Shape:={ sl:=[(0,(.hole y45))],bl:=[],ts:=[y45],pin:=0 }
abbrev Zys:Shape:={ sl:=[(0,(.hole (.slice y4)))],bl:=[],ts:=[(.slice y4)],pin:=0 }
def Z5t (x:T62):Option T6 :=
 (loop Zd1 (x.2.1,(((List.length x.2.1):Nat):Int),(0:Int),x,([]:List (Int × Int)))).bind fun r10 =>
 some r10
abbrev Z149:=Spec.shp Ztb Zys Z5t
def Ziw:Ctx:={ tb:=mkTb T2.tbl,fx:=[(55,[],Z14o),(56,[],Z14x)],sum:=[(0,4,Yat Zpg Znh (loop Zd1))],nt:=55,pin:=0,nr:=true,ys:=[] }
theorem Z5u:Sound Tryz.prog 20 (Z149) :=
 Sound.shp (C:=Ziw) (fn:=Tryz.f20) (by kernel_rfl) (c:=bodyOf Tryz.f20) (by kernel_rfl) (by decide) (ctxOK mixed tbl_ok rfl ⟨Z6o,Z76,trivial⟩ trivial) (SumOK.of ⟨(Yav (d:=.loop (loopOf 4 Tryz.f20)) (by kernel_rfl) Zd2),trivial⟩) (by kernel_rfl) Ztb Zys rfl (by decide) (by decide) rfl (by decide) rfl Z5t (fun x=>by kernel_rfl)
abbrev Zpl:Shape:={ sl:=[(0,(.hole (.slice y4))),(1,(.hole (.slice y4))),(12,(.hole (.int .i64))),(13,(.hole (.int .i64)))],bl:=[],ts:=[(.slice y4),(.slice y4),(.int .i64),(.int .i64)],pin:=0 }
abbrev Znm:List (ETag × Shape):=[(.ret,{ sl:=sl_35,bl:=[],ts:=ts_1,pin:=0 }),(.exit 0,{ sl:=[],bl:=[],ts:=[],pin:=0 })]
def Zdb (x:(List (Int × Int) × List (Int × Int) × Int × Int)):Option ((List (Int × Int) × List (Int × Int) × Int × Int) ⊕ ((Bool) ⊕ Unit)) :=
 bif (decide (x.2.2.2 < x.2.2.1)) then
 bif (inb x.2.2.2 (List.length x.1)) then
 bif (inb x.2.2.2 (List.length x.2.1)) then
 bif (Bool.not (((getAt ((0:Int),(0:Int)) x.1 (toN x.2.2.2)).1 == (getAt ((0:Int),(0:Int)) x.2.1 (toN x.2.2.2)).1) && ((getAt ((0:Int),(0:Int)) x.1 (toN x.2.2.2)).2 == (getAt ((0:Int),(0:Int)) x.2.1 (toN x.2.2.2)).2))) then
 some (.inr (.inl false))
 else
 some (.inl (x.1,x.2.1,x.2.2.1,(IntKind.wrap .i64 (x.2.2.2+(1:Int)))))
 else
 none
 else
 none
 else
 some (.inr (.inr ()))
def Zj5:Ctx:={ tb:=mkTb T2.tbl,fx:=[],sum:=[],nt:=26,pin:=0,nr:=true,ys:=[] }
theorem Zdc:CSound Tryz.prog ⟨26,0,true⟩ (.loop (loopOf 5 Tryz.f21)) (Yat Zpl Znm (loop Zdb)) :=
 Y89 (C:=Zj5) (ctxOK mixed tbl_ok rfl trivial trivial) (SumOK.of trivial) Zpl Znm rfl rfl Zdb (fun x=>by kernel_rfl)
end
end Go.Proofs.YthdlpkdojipfhaaGreat.VX.VxM_M

