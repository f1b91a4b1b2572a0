/- Laid for the law MachineApart. -/
import Derived.Test.YthdlpkdojipfhaaGreatMachineApartF0
set_option linter.unusedVariables false
set_option maxRecDepth 100000
namespace Go.Proofs.YthdlpkdojipfhaaGreat.VX.VxM_M
open Go.Proofs Go.Proofs.YthdlpkdojipfhaaGreat.VX.T2
noncomputable section
abbrev Zin:Shape:={ sl:=sl_27,bl:=[],ts:=[y40,y5],pin:=0 }
abbrev Zmm:Shape:={ sl:=sl_28,bl:=[],ts:=[y40,y30,(.int .i64)],pin:=0 }
def Zc (x:T45):Option T48 :=
 (Za x.1).bind fun r18 =>
 bif (Bool.not r18) then
 some (((0:Int),false,((0:Int),(0:Int),([]:List Int),(0:Int)),(0:Int),(0:Int),([]:List T7),([]:List T7)),((0:Int),(0:Int),((0:Int),(0:Int),(0:Int)),(0:Int)),(1:Int))
 else
 (Ze x.2).bind fun r19 =>
 bif (Bool.not r19) then
 some (((0:Int),false,((0:Int),(0:Int),([]:List Int),(0:Int)),(0:Int),(0:Int),([]:List T7),([]:List T7)),((0:Int),(0:Int),((0:Int),(0:Int),(0:Int)),(0:Int)),(1:Int))
 else
 (Zq (x.1.2.2.2.2.2.2,x.1,x.2.1)).bind fun r20 =>
 (Zl r20.2).bind fun r21 =>
 bif r21.1 then
 some (x.1,((0:Int),(0:Int),((Int.negSucc 0),(0:Int),(0:Int)),(0:Int)),(0:Int))
 else
 bif r20.2.1.2.1 then
 some (x.1,((3:Int),(0:Int),((Int.negSucc 0),(0:Int),(0:Int)),(0:Int)),(0:Int))
 else
 bif (r20.1.1 != (Int.negSucc 0)) then
 bif (r20.2.1.2.2.2.1 == (1048576:Int)) then
 some (((0:Int),false,((0:Int),(0:Int),([]:List Int),(0:Int)),(0:Int),(0:Int),([]:List T7),([]:List T7)),((0:Int),(0:Int),((0:Int),(0:Int),(0:Int)),(0:Int)),(5:Int))
 else
 bif (r20.1.1 != (Int.negSucc 0)) then
 (Zo (r20.1.1,r20.2)).bind fun r22 =>
 (Zs r22).bind fun r23 =>
 some (r23.2.1,((1:Int),r23.1,r20.1,r23.1),(0:Int))
 else
 (Zi r20.2).bind fun r22 =>
 bif (Bool.not r22.1) then
 (Zw r20.2).bind fun r23 =>
 some (r23.2.1,((1:Int),r23.1,r20.1,(0:Int)),(0:Int))
 else
 (Z7t (r20.2.1.2.2.2.2.2.1,x.2)).bind fun r23 =>
 bif (r23.2 != (0:Int)) then
 some (((0:Int),false,((0:Int),(0:Int),([]:List Int),(0:Int)),(0:Int),(0:Int),([]:List T7),([]:List T7)),((0:Int),(0:Int),((0:Int),(0:Int),(0:Int)),(0:Int)),r23.2)
 else
 some ((r20.2.1.1,r20.2.1.2.1,r20.2.1.2.2.1,r20.2.1.2.2.2.1,r20.2.1.2.2.2.2.1,r23.1,r20.2.1.2.2.2.2.2.2),((0:Int),(0:Int),r20.1,(0:Int)),(0:Int))
 else
 (Zi r20.2).bind fun r22 =>
 bif (Bool.not r22.1) then
 bif (r20.2.1.2.2.2.1 == (1048576:Int)) then
 some (((0:Int),false,((0:Int),(0:Int),([]:List Int),(0:Int)),(0:Int),(0:Int),([]:List T7),([]:List T7)),((0:Int),(0:Int),((0:Int),(0:Int),(0:Int)),(0:Int)),(5:Int))
 else
 bif (r20.1.1 != (Int.negSucc 0)) then
 (Zo (r20.1.1,r20.2)).bind fun r23 =>
 (Zs r23).bind fun r24 =>
 some (r24.2.1,((1:Int),r24.1,r20.1,r24.1),(0:Int))
 else
 (Zi r20.2).bind fun r23 =>
 bif (Bool.not r23.1) then
 (Zw r20.2).bind fun r24 =>
 some (r24.2.1,((1:Int),r24.1,r20.1,(0:Int)),(0:Int))
 else
 (Z7t (r20.2.1.2.2.2.2.2.1,x.2)).bind fun r24 =>
 bif (r24.2 != (0:Int)) then
 some (((0:Int),false,((0:Int),(0:Int),([]:List Int),(0:Int)),(0:Int),(0:Int),([]:List T7),([]:List T7)),((0:Int),(0:Int),((0:Int),(0:Int),(0:Int)),(0:Int)),r24.2)
 else
 some ((r20.2.1.1,r20.2.1.2.1,r20.2.1.2.2.1,r20.2.1.2.2.2.1,r20.2.1.2.2.2.2.1,r24.1,r20.2.1.2.2.2.2.2.2),((0:Int),(0:Int),r20.1,(0:Int)),(0:Int))
 else
 bif (r20.1.1 != (Int.negSucc 0)) then
 (Zo (r20.1.1,r20.2)).bind fun r23 =>
 (Zs r23).bind fun r24 =>
 some (r24.2.1,((1:Int),r24.1,r20.1,r24.1),(0:Int))
 else
 (Zi r20.2).bind fun r23 =>
 bif (Bool.not r23.1) then
 (Zw r20.2).bind fun r24 =>
 some (r24.2.1,((1:Int),r24.1,r20.1,(0:Int)),(0:Int))
 else
 (Z7t (r20.2.1.2.2.2.2.2.1,x.2)).bind fun r24 =>
 bif (r24.2 != (0:Int)) then
 some (((0:Int),false,((0:Int),(0:Int),([]:List Int),(0:Int)),(0:Int),(0:Int),([]:List T7),([]:List T7)),((0:Int),(0:Int),((0:Int),(0:Int),(0:Int)),(0:Int)),r24.2)
 else
 some ((r20.2.1.1,r20.2.1.2.1,r20.2.1.2.2.1,r20.2.1.2.2.2.1,r20.2.1.2.2.2.2.1,r24.1,r20.2.1.2.2.2.2.2.2),((0:Int),(0:Int),r20.1,(0:Int)),(0:Int))
abbrev Zql:=Spec.shp Zin Zmm Zc
def Zat:Ctx:={ tb:=mkTb T2.tbl,fx:=[(112,[],Zqk),(206,[],Zqm),(167,[],Zqr),(165,[],Spec.shpR Zir Zmq Zl),(205,[],Zqq),(209,[],Zqs),(166,[],Spec.shpR Ziq Zmp Zi),(208,[],Zqu),(171,[],Zu8)],sum:=[],nt:=128,pin:=0,nr:=true,ys:=[] }
theorem Zd:Sound Tryz.prog 170 (Zql) :=
 Sound.shp (C:=Zat) (fn:=Tryz.f170) (by kernel_rfl) (c:=bodyOf Tryz.f170) (by kernel_rfl) (by decide) (ctxOK mixed tbl_ok rfl ⟨Zb,Zf,Zr,Zn,Zp,Zt,Zk,Zx,Z7u,trivial⟩ trivial) (SumOK.of trivial) (by kernel_rfl) Zin Zmm rfl (by decide) (by decide) rfl (by decide) rfl Zc (fun x=>by kernel_rfl)
abbrev Zlb:Shape:={ sl:=[(0,(.hole y21))],bl:=[],ts:=[y21],pin:=0 }
abbrev Zpa:Shape:={ sl:=[(0,(.hole y21)),(1,(.hole (.int .i64))),(2,(.hole (.int .i64)))],bl:=[],ts:=[y21,(.int .i64),(.int .i64)],pin:=0 }
def Z5r (x:(T16)):Option (T16 × Int × Int) :=
 (Z5v x).bind fun r25 =>
 bif (Bool.not r25) then
 some (((0:Int),(0:Int),([]:List Int),(0:Int)),(0:Int),(1:Int))
 else
 bif (x.2.2.2 == (0:Int)) then
 some (((0:Int),(0:Int),([]:List Int),(0:Int)),(0:Int),(4:Int))
 else
 (Z61 (x,(0:Int))).bind fun r26 =>
 bif (inb r26 (List.length x.2.2.1)) then
 (Z61 (x,(1:Int))).bind fun r27 =>
 some ((x.1,r27,x.2.2.1,(IntKind.wrap .i64 (x.2.2.2 - (1:Int)))),(getAt (0:Int) x.2.2.1 (toN r26)),(0:Int))
 else
 none
abbrev Zt8:=Spec.shp Zlb Zpa Z5r
def Zef:Ctx:={ tb:=mkTb T2.tbl,fx:=[(196,[],Zta),(232,[],Ztd)],sum:=[],nt:=34,pin:=0,nr:=true,ys:=[] }
theorem Z5s:Sound Tryz.prog 234 (Zt8) :=
 Sound.shp (C:=Zef) (fn:=Tryz.f234) (by kernel_rfl) (c:=bodyOf Tryz.f234) (by kernel_rfl) (by decide) (ctxOK mixed tbl_ok rfl ⟨Z5w,Z64,trivial⟩ trivial) (SumOK.of trivial) (by kernel_rfl) Zlb Zpa rfl (by decide) (by decide) rfl (by decide) rfl Z5r (fun x=>by kernel_rfl)
abbrev Ziv:Shape:={ sl:=sl_15,bl:=bl_12,ts:=[y42],pin:=0 }
abbrev Zmu:Shape:={ sl:=sl_2,bl:=bl_12,ts:=[(.int .i64),y42],pin:=1 }
def Zu (x:(T46)):Option (Int × T46) :=
 (Z5r x.1.2.2.1).bind fun r24 =>
 some (r24.2.1,(x.1.1,x.1.2.1,r24.1,x.1.2.2.2.1,(IntKind.wrap .i64 (x.1.2.2.2.2.1+(1:Int))),x.1.2.2.2.2.2),x.2)
abbrev Zqt:=Spec.shp Ziv Zmu Zu
def Zb2:Ctx:={ tb:=mkTb T2.tbl,fx:=[(234,[],Zt8)],sum:=[],nt:=28,pin:=1,nr:=true,ys:=[] }
theorem Zv:Sound Tryz.prog 207 (Zqt) :=
 Sound.shp (C:=Zb2) (fn:=Tryz.f207) (by kernel_rfl) (c:=bodyOf Tryz.f207) (by kernel_rfl) (by decide) (ctxOK mixed tbl_ok rfl ⟨Z5s,trivial⟩ trivial) (SumOK.of trivial) (by kernel_rfl) Ziv Zmu rfl (by decide) (by decide) rfl (by decide) rfl Zu (fun x=>by kernel_rfl)
abbrev Zil:Shape:={ sl:=sl_27,bl:=[],ts:=[y40,y5],pin:=0 }
abbrev Zmk:Shape:={ sl:=sl_28,bl:=[],ts:=[y40,y30,(.int .i64)],pin:=0 }
def Z8 (x:T45):Option T48 :=
 (Za x.1).bind fun r18 =>
 bif (Bool.not r18) then
 some (((0:Int),false,((0:Int),(0:Int),([]:List Int),(0:Int)),(0:Int),(0:Int),([]:List T7),([]:List T7)),((0:Int),(0:Int),((0:Int),(0:Int),(0:Int)),(0:Int)),(1:Int))
 else
 (Ze x.2).bind fun r19 =>
 bif (Bool.not r19) then
 some (((0:Int),false,((0:Int),(0:Int),([]:List Int),(0:Int)),(0:Int),(0:Int),([]:List T7),([]:List T7)),((0:Int),(0:Int),((0:Int),(0:Int),(0:Int)),(0:Int)),(1:Int))
 else
 (Zq (x.1.2.2.2.2.2.1,x.1,x.2.1)).bind fun r20 =>
 bif (r20.1.1 != (Int.negSucc 0)) then
 bif (r20.2.1.2.2.2.1 == (1048576:Int)) then
 some (((0:Int),false,((0:Int),(0:Int),([]:List Int),(0:Int)),(0:Int),(0:Int),([]:List T7),([]:List T7)),((0:Int),(0:Int),((0:Int),(0:Int),(0:Int)),(0:Int)),(5:Int))
 else
 (Zo (r20.1.1,r20.2)).bind fun r21 =>
 (Zl r21).bind fun r22 =>
 bif r22.1 then
 some (x.1,((0:Int),(0:Int),r20.1,(0:Int)),(0:Int))
 else
 bif (decide (r21.1.2.2.1.2.2.2 > (0:Int))) then
 (Zu r21).bind fun r23 =>
 bif (r20.1.1 != (Int.negSucc 0)) then
 (Zw r23.2).bind fun r24 =>
 some (r24.2.1,((1:Int),r23.1,r20.1,r24.1),(0:Int))
 else
 some (r23.2.1,((1:Int),r23.1,r20.1,(0:Int)),(0:Int))
 else
 bif (r20.1.1 != (Int.negSucc 0)) then
 (Zs r21).bind fun r23 =>
 some (r23.2.1,((1:Int),r23.1,r20.1,r23.1),(0:Int))
 else
 bif r21.1.2.1 then
 some (x.1,((2:Int),(0:Int),r20.1,(0:Int)),(0:Int))
 else
 (Z7t (r21.1.2.2.2.2.2.2,x.2)).bind fun r23 =>
 bif (r23.2 != (0:Int)) then
 some (((0:Int),false,((0:Int),(0:Int),([]:List Int),(0:Int)),(0:Int),(0:Int),([]:List T7),([]:List T7)),((0:Int),(0:Int),((0:Int),(0:Int),(0:Int)),(0:Int)),r23.2)
 else
 some ((r21.1.1,r21.1.2.1,r21.1.2.2.1,r21.1.2.2.2.1,r21.1.2.2.2.2.1,r21.1.2.2.2.2.2.1,r23.1),((0:Int),(0:Int),r20.1,(0:Int)),(0:Int))
 else
 (Zl r20.2).bind fun r21 =>
 bif r21.1 then
 some (x.1,((0:Int),(0:Int),r20.1,(0:Int)),(0:Int))
 else
 bif (decide (r20.2.1.2.2.1.2.2.2 > (0:Int))) then
 (Zu r20.2).bind fun r22 =>
 bif (r20.1.1 != (Int.negSucc 0)) then
 (Zw r22.2).bind fun r23 =>
 some (r23.2.1,((1:Int),r22.1,r20.1,r23.1),(0:Int))
 else
 some (r22.2.1,((1:Int),r22.1,r20.1,(0:Int)),(0:Int))
 else
 bif (r20.1.1 != (Int.negSucc 0)) then
 (Zs r20.2).bind fun r22 =>
 some (r22.2.1,((1:Int),r22.1,r20.1,r22.1),(0:Int))
 else
 bif r20.2.1.2.1 then
 some (x.1,((2:Int),(0:Int),r20.1,(0:Int)),(0:Int))
 else
 (Z7t (r20.2.1.2.2.2.2.2.2,x.2)).bind fun r22 =>
 bif (r22.2 != (0:Int)) then
 some (((0:Int),false,((0:Int),(0:Int),([]:List Int),(0:Int)),(0:Int),(0:Int),([]:List T7),([]:List T7)),((0:Int),(0:Int),((0:Int),(0:Int),(0:Int)),(0:Int)),r22.2)
 else
 some ((r20.2.1.1,r20.2.1.2.1,r20.2.1.2.2.1,r20.2.1.2.2.2.1,r20.2.1.2.2.2.2.1,r20.2.1.2.2.2.2.2.1,r22.1),((0:Int),(0:Int),r20.1,(0:Int)),(0:Int))
abbrev Zqj:=Spec.shp Zil Zmk Z8
def Zar:Ctx:={ tb:=mkTb T2.tbl,fx:=[(112,[],Zqk),(206,[],Zqm),(167,[],Zqr),(205,[],Zqq),(165,[],Spec.shpR Zir Zmq Zl),(207,[],Zqt),(208,[],Zqu),(209,[],Zqs),(171,[],Zu8)],sum:=[],nt:=130,pin:=0,nr:=true,ys:=[] }
theorem Z9:Sound Tryz.prog 169 (Zqj) :=
 Sound.shp (C:=Zar) (fn:=Tryz.f169) (by kernel_rfl) (c:=bodyOf Tryz.f169) (by kernel_rfl) (by decide) (ctxOK mixed tbl_ok rfl ⟨Zb,Zf,Zr,Zp,Zn,Zv,Zx,Zt,Z7u,trivial⟩ trivial) (SumOK.of trivial) (by kernel_rfl) Zil Zmk rfl (by decide) (by decide) rfl (by decide) rfl Z8 (fun x=>by kernel_rfl)
abbrev Zjo:Shape:={ sl:=sl_29,bl:=bl_2,ts:=[y5,(.int .i64),.bool,y39,y4,y18,y41,y19,y26,y27],pin:=0 }
abbrev Znn:Shape:={ sl:=[(0,(.hole y30))],bl:=bl_2,ts:=[y30,y39,y4,y18,y41,y19,y26,y27],pin:=1 }
def Z2g (x:(T7 × Int × Bool × T47 × (Int × Int) × List (T17) × List T43 × List (T18) × List T29 × List (T20))):Option ((Int × T23) × T47 × (Int × Int) × List (T17) × List T43 × List (T18) × List T29 × List (T20)) :=
 bif x.2.2.1 then
 bif (inb x.2.1 (List.length x.2.2.2.2.2.2.1)) then
 (Zc ((getAt ((0:Int),false,((0:Int),(0:Int),([]:List Int),(0:Int)),(0:Int),(0:Int),([]:List T7),([]:List T7)) x.2.2.2.2.2.2.1 (toN x.2.1)),x.1)).bind fun r17 =>
 bif (inb x.2.1 (List.length x.2.2.2.2.2.2.1)) then
 some (r17.2.1,x.2.2.2.1,x.2.2.2.2.1,x.2.2.2.2.2.1,(List.set x.2.2.2.2.2.2.1 (toN x.2.1) r17.1),x.2.2.2.2.2.2.2.1,x.2.2.2.2.2.2.2.2.1,x.2.2.2.2.2.2.2.2.2)
 else
 none
 else
 none
 else
 bif (inb x.2.1 (List.length x.2.2.2.2.2.2.1)) then
 (Z8 ((getAt ((0:Int),false,((0:Int),(0:Int),([]:List Int),(0:Int)),(0:Int),(0:Int),([]:List T7),([]:List T7)) x.2.2.2.2.2.2.1 (toN x.2.1)),x.1)).bind fun r17 =>
 bif (inb x.2.1 (List.length x.2.2.2.2.2.2.1)) then
 some (r17.2.1,x.2.2.2.1,x.2.2.2.2.1,x.2.2.2.2.2.1,(List.set x.2.2.2.2.2.2.1 (toN x.2.1) r17.1),x.2.2.2.2.2.2.2.1,x.2.2.2.2.2.2.2.2.1,x.2.2.2.2.2.2.2.2.2)
 else
 none
 else
 none
abbrev Zrm:=Spec.shp Zjo Znn Z2g
def Zc3:Ctx:={ tb:=mkTb T2.tbl,fx:=[(170,[],Zql),(169,[],Zqj)],sum:=[],nt:=38,pin:=1,nr:=true,ys:=[] }
theorem Z2h:Sound Tryz.prog 124 (Zrm) :=
 Sound.shp (C:=Zc3) (fn:=Tryz.f124) (by kernel_rfl) (c:=bodyOf Tryz.f124) (by kernel_rfl) (by decide) (ctxOK mixed tbl_ok rfl ⟨Zd,Z9,trivial⟩ trivial) (SumOK.of trivial) (by kernel_rfl) Zjo Znn rfl (by decide) (by decide) rfl (by decide) rfl Z2g (fun x=>by kernel_rfl)
abbrev Zk2:Shape:={ sl:=sl_25,bl:=bl_2,ts:=ts_10,pin:=0 }
abbrev Zo1:Shape:={ sl:=[],bl:=bl_2,ts:=ts_11,pin:=1 }
def Z39 (x:T58):Option T57 :=
 bif (inb x.1 (List.length x.2.2.2.1)) then
 some (x.2.1,x.2.2.1,(List.set x.2.2.2.1 (toN x.1) ((getAt ((0:Int),(0:Int),(0:Int),false) x.2.2.2.1 (toN x.1)).1,(getAt ((0:Int),(0:Int),(0:Int),false) x.2.2.2.1 (toN x.1)).2.1,(1:Int),(getAt ((0:Int),(0:Int),(0:Int),false) x.2.2.2.1 (toN x.1)).2.2.2)),x.2.2.2.2.1,x.2.2.2.2.2.1,x.2.2.2.2.2.2.1,x.2.2.2.2.2.2.2)
 else
 none
abbrev Zs0:=Spec.shp Zk2 Zo1 Z39
def Zcj:Ctx:={ tb:=mkTb T2.tbl,fx:=[],sum:=[],nt:=12,pin:=1,nr:=true,ys:=[] }
theorem Z3a:Sound Tryz.prog 125 (Zs0) :=
 Sound.shp (C:=Zcj) (fn:=Tryz.f125) (by kernel_rfl) (c:=bodyOf Tryz.f125) (by kernel_rfl) (by decide) (ctxOK mixed tbl_ok rfl trivial trivial) (SumOK.of trivial) (by kernel_rfl) Zk2 Zo1 rfl (by decide) (by decide) rfl (by decide) rfl Z39 (fun x=>by kernel_rfl)
abbrev Zii:Shape:={ sl:=sl_13,bl:=[],ts:=[y40,(.int .i64)],pin:=0 }
abbrev Zmh:Shape:={ sl:=sl_13,bl:=[],ts:=[y40,(.int .i64)],pin:=0 }
def Z2 (x:T46):Option T46 :=
 (Za x.1).bind fun r23 =>
 bif (Bool.not r23) then
 some (((0:Int),false,((0:Int),(0:Int),([]:List Int),(0:Int)),(0:Int),(0:Int),([]:List T7),([]:List T7)),(1:Int))
 else
 bif (decide (x.2 < (0:Int))) then
 some (((0:Int),false,((0:Int),(0:Int),([]:List Int),(0:Int)),(0:Int),(0:Int),([]:List T7),([]:List T7)),(1:Int))
 else
 (Zo (x.2,x.1,x.2)).bind fun r24 =>
 some (r24.1,(0:Int))
abbrev Zqg:=Spec.shp Zii Zmh Z2
def Zao:Ctx:={ tb:=mkTb T2.tbl,fx:=[(112,[],Zqk),(205,[],Zqq)],sum:=[],nt:=26,pin:=0,nr:=true,ys:=[] }
theorem Z3:Sound Tryz.prog 168 (Zqg) :=
 Sound.shp (C:=Zao) (fn:=Tryz.f168) (by kernel_rfl) (c:=bodyOf Tryz.f168) (by kernel_rfl) (by decide) (ctxOK mixed tbl_ok rfl ⟨Zb,Zp,trivial⟩ trivial) (SumOK.of trivial) (by kernel_rfl) Zii Zmh rfl (by decide) (by decide) rfl (by decide) rfl Z2 (fun x=>by kernel_rfl)
abbrev Zhe:Shape:={ sl:=[(0,(.ptr 0 [])),(6,(.ptr 1 [])),(98,(.sl 2)),(99,(.hole (.int .i64))),(100,(.hole (.int .i64)))],bl:=[.var (.pr (.pr (.hole y39) (.pr (.sl 3) (.pr (.sl 2) (.pr (.sl 4) (.pr (.sl 5) (.hole y4)))))) (.sl 6)),.var (.hole y5),.row y40,.row y12,.row y15,.row y23,.row y24],ts:=[(.int .i64),(.int .i64),y39,y4,y5,y41,y18,y19,y26,y27],pin:=1 }
abbrev Zg4:List (ETag × Shape):=[(.exit 1,{ sl:=[],bl:=bl_2,ts:=ts_11,pin:=1 })]
def Z8h (x:(Int × Int × T47 × (Int × Int) × T7 × List T43 × List (T17) × List (T18) × List T29 × List (T20))):Option ((Int × Int × T47 × (Int × Int) × T7 × List T43 × List (T17) × List (T18) × List T29 × List (T20)) ⊕ (T57)) :=
 bif (decide (x.2.1 < x.1)) then
 bif (inb x.2.1 (List.length x.2.2.2.2.2.1)) then
 (Z2 ((getAt ((0:Int),false,((0:Int),(0:Int),([]:List Int),(0:Int)),(0:Int),(0:Int),([]:List T7),([]:List T7)) x.2.2.2.2.2.1 (toN x.2.1)),x.2.2.2.2.1.1)).bind fun r22 =>
 bif (inb x.2.1 (List.length x.2.2.2.2.2.1)) then
 some (.inl (x.1,(IntKind.wrap .i64 (x.2.1+(1:Int))),x.2.2.1,x.2.2.2.1,x.2.2.2.2.1,(List.set x.2.2.2.2.2.1 (toN x.2.1) r22.1),x.2.2.2.2.2.2.1,x.2.2.2.2.2.2.2.1,x.2.2.2.2.2.2.2.2.1,x.2.2.2.2.2.2.2.2.2))
 else
 none
 else
 none
 else
 some (.inr (x.2.2.1,x.2.2.2.1,x.2.2.2.2.2.2.1,x.2.2.2.2.2.1,x.2.2.2.2.2.2.2.1,x.2.2.2.2.2.2.2.2.1,x.2.2.2.2.2.2.2.2.2))
def Zbt:Ctx:={ tb:=mkTb T2.tbl,fx:=[(78,[],Zrh),(40,[],Zry),(120,[],Zrf),(168,[],Zqg)],sum:=[],nt:=120,pin:=1,nr:=true,ys:=[] }
theorem Z8i:CSound Tryz.prog ⟨120,1,true⟩ (.loop (loopOf 13 Tryz.f123)) (Yav Zhe Zg4 (loop Z8h)) :=
 Y8e (C:=Zbt) (ctxOK mixed tbl_ok rfl ⟨Z27,Z36,Z23,Z3,trivial⟩ trivial) (SumOK.of trivial) Zhe Zg4 rfl rfl Z8h (fun x=>by kernel_rfl)
abbrev Zjf:Shape:={ sl:=[(0,(.ptr 0 [])),(1,(.hole y5)),(2,(.hole (.int .i64))),(3,(.hole (.int .i64))),(4,(.hole (.int .i64)))],bl:=bl_2,ts:=[y5,(.int .i64),(.int .i64),(.int .i64),y39,y4,y18,y41,y19,y26,y27],pin:=0 }
abbrev Zne:Shape:={ sl:=[],bl:=bl_2,ts:=ts_11,pin:=1 }
def Z1y (x:(T7 × Int × Int × Int × T47 × (Int × Int) × List (T17) × List T43 × List (T18) × List T29 × List (T20))):Option T57 :=
 (Z26 (x.1.1,x.2.2.2.2.1,x.2.2.2.2.2.1,x.2.2.2.2.2.2.1,x.2.2.2.2.2.2.2.1,x.2.2.2.2.2.2.2.2.1,x.2.2.2.2.2.2.2.2.2.1,x.2.2.2.2.2.2.2.2.2.2)).bind fun r18 =>
 bif (r18.1.1 == (1:Int)) then
 (Z35 (x.1.1,(3:Int),x.2.1,x.2.2.1,x.1.2.2,r18.2.1,r18.2.2.1,r18.2.2.2.1,r18.2.2.2.2.1,r18.2.2.2.2.2.1,r18.2.2.2.2.2.2.1,r18.2.2.2.2.2.2.2)).bind fun r19 =>
 (Z22 (x.1.1,r19.2.1,r19.2.2.1,r19.2.2.2.1,r19.2.2.2.2.1,r19.2.2.2.2.2.1,r19.2.2.2.2.2.2.1,r19.2.2.2.2.2.2.2)).bind fun r20 =>
 (loop Z8h ((((List.length r20.2.2.2.1):Nat):Int),(0:Int),r20.1,r20.2.1,x.1,r20.2.2.2.1,r20.2.2.1,r20.2.2.2.2.1,r20.2.2.2.2.2.1,r20.2.2.2.2.2.2)).bind fun r21 =>
 some (r21.1,r21.2.1,r21.2.2.1,r21.2.2.2.1,r21.2.2.2.2.1,r21.2.2.2.2.2.1,r21.2.2.2.2.2.2)
 else
 bif (r18.1.1 == (4:Int)) then
 bif (inb r18.1.2.1 (List.length r18.2.1.2.2.2.2.1)) then
 bif (inb x.1.2.1 (List.length (getAt (([]:List T0),false) r18.2.1.2.2.2.2.1 (toN r18.1.2.1)).1)) then
 bif (getAt (false,(0:Int)) (getAt (([]:List T0),false) r18.2.1.2.2.2.2.1 (toN r18.1.2.1)).1 (toN x.1.2.1)).1 then
 (Z35 (x.1.1,(3:Int),x.2.1,x.2.2.1,x.1.2.2,r18.2.1,r18.2.2.1,r18.2.2.2.1,r18.2.2.2.2.1,r18.2.2.2.2.2.1,r18.2.2.2.2.2.2.1,r18.2.2.2.2.2.2.2)).bind fun r19 =>
 (Z22 (x.1.1,r19.2.1,r19.2.2.1,r19.2.2.2.1,r19.2.2.2.2.1,r19.2.2.2.2.2.1,r19.2.2.2.2.2.2.1,r19.2.2.2.2.2.2.2)).bind fun r20 =>
 (loop Z8h ((((List.length r20.2.2.2.1):Nat):Int),(0:Int),r20.1,r20.2.1,x.1,r20.2.2.2.1,r20.2.2.1,r20.2.2.2.2.1,r20.2.2.2.2.2.1,r20.2.2.2.2.2.2)).bind fun r21 =>
 some (r21.1,r21.2.1,r21.2.2.1,r21.2.2.2.1,r21.2.2.2.2.1,r21.2.2.2.2.2.1,r21.2.2.2.2.2.2)
 else
 bif (x.2.2.2.1 == (2:Int)) then
 (Z35 (x.1.1,(6:Int),x.2.1,(0:Int),x.1.2.2,r18.2.1,r18.2.2.1,r18.2.2.2.1,r18.2.2.2.2.1,r18.2.2.2.2.2.1,r18.2.2.2.2.2.2.1,r18.2.2.2.2.2.2.2)).bind fun r19 =>
 bif (inb x.1.1 (List.length r19.2.2.2.1)) then
 (Z22 (x.1.1,r19.2.1,r19.2.2.1,(List.set r19.2.2.2.1 (toN x.1.1) ((getAt ((0:Int),(0:Int),(0:Int),false) r19.2.2.2.1 (toN x.1.1)).1,(getAt ((0:Int),(0:Int),(0:Int),false) r19.2.2.2.1 (toN x.1.1)).2.1,(getAt ((0:Int),(0:Int),(0:Int),false) r19.2.2.2.1 (toN x.1.1)).2.2.1,true)),r19.2.2.2.2.1,r19.2.2.2.2.2.1,r19.2.2.2.2.2.2.1,r19.2.2.2.2.2.2.2)).bind fun r20 =>
 (loop Z8h ((((List.length r20.2.2.2.1):Nat):Int),(0:Int),r20.1,r20.2.1,x.1,r20.2.2.2.1,r20.2.2.1,r20.2.2.2.2.1,r20.2.2.2.2.2.1,r20.2.2.2.2.2.2)).bind fun r21 =>
 some (r21.1,r21.2.1,r21.2.2.1,r21.2.2.2.1,r21.2.2.2.2.1,r21.2.2.2.2.2.1,r21.2.2.2.2.2.2)
 else
 none
 else
 (Z35 (x.1.1,(5:Int),x.2.1,x.2.2.1,x.1.2.2,r18.2.1,r18.2.2.1,r18.2.2.2.1,r18.2.2.2.2.1,r18.2.2.2.2.2.1,r18.2.2.2.2.2.2.1,r18.2.2.2.2.2.2.2)).bind fun r19 =>
 bif (inb x.1.1 (List.length r19.2.2.2.1)) then
 (Z22 (x.1.1,r19.2.1,r19.2.2.1,(List.set r19.2.2.2.1 (toN x.1.1) ((getAt ((0:Int),(0:Int),(0:Int),false) r19.2.2.2.1 (toN x.1.1)).1,(getAt ((0:Int),(0:Int),(0:Int),false) r19.2.2.2.1 (toN x.1.1)).2.1,(getAt ((0:Int),(0:Int),(0:Int),false) r19.2.2.2.1 (toN x.1.1)).2.2.1,false)),r19.2.2.2.2.1,r19.2.2.2.2.2.1,r19.2.2.2.2.2.2.1,r19.2.2.2.2.2.2.2)).bind fun r20 =>
 (loop Z8h ((((List.length r20.2.2.2.1):Nat):Int),(0:Int),r20.1,r20.2.1,x.1,r20.2.2.2.1,r20.2.2.1,r20.2.2.2.2.1,r20.2.2.2.2.2.1,r20.2.2.2.2.2.2)).bind fun r21 =>
 some (r21.1,r21.2.1,r21.2.2.1,r21.2.2.2.1,r21.2.2.2.2.1,r21.2.2.2.2.2.1,r21.2.2.2.2.2.2)
 else
 none
 else
 none
 else
 none
 else
 bif (x.2.2.2.1 == (2:Int)) then
 (Z35 (x.1.1,(6:Int),x.2.1,(0:Int),x.1.2.2,r18.2.1,r18.2.2.1,r18.2.2.2.1,r18.2.2.2.2.1,r18.2.2.2.2.2.1,r18.2.2.2.2.2.2.1,r18.2.2.2.2.2.2.2)).bind fun r19 =>
 bif (inb x.1.1 (List.length r19.2.2.2.1)) then
 (Z22 (x.1.1,r19.2.1,r19.2.2.1,(List.set r19.2.2.2.1 (toN x.1.1) ((getAt ((0:Int),(0:Int),(0:Int),false) r19.2.2.2.1 (toN x.1.1)).1,(getAt ((0:Int),(0:Int),(0:Int),false) r19.2.2.2.1 (toN x.1.1)).2.1,(getAt ((0:Int),(0:Int),(0:Int),false) r19.2.2.2.1 (toN x.1.1)).2.2.1,true)),r19.2.2.2.2.1,r19.2.2.2.2.2.1,r19.2.2.2.2.2.2.1,r19.2.2.2.2.2.2.2)).bind fun r20 =>
 (loop Z8h ((((List.length r20.2.2.2.1):Nat):Int),(0:Int),r20.1,r20.2.1,x.1,r20.2.2.2.1,r20.2.2.1,r20.2.2.2.2.1,r20.2.2.2.2.2.1,r20.2.2.2.2.2.2)).bind fun r21 =>
 some (r21.1,r21.2.1,r21.2.2.1,r21.2.2.2.1,r21.2.2.2.2.1,r21.2.2.2.2.2.1,r21.2.2.2.2.2.2)
 else
 none
 else
 (Z35 (x.1.1,(5:Int),x.2.1,x.2.2.1,x.1.2.2,r18.2.1,r18.2.2.1,r18.2.2.2.1,r18.2.2.2.2.1,r18.2.2.2.2.2.1,r18.2.2.2.2.2.2.1,r18.2.2.2.2.2.2.2)).bind fun r19 =>
 bif (inb x.1.1 (List.length r19.2.2.2.1)) then
 (Z22 (x.1.1,r19.2.1,r19.2.2.1,(List.set r19.2.2.2.1 (toN x.1.1) ((getAt ((0:Int),(0:Int),(0:Int),false) r19.2.2.2.1 (toN x.1.1)).1,(getAt ((0:Int),(0:Int),(0:Int),false) r19.2.2.2.1 (toN x.1.1)).2.1,(getAt ((0:Int),(0:Int),(0:Int),false) r19.2.2.2.1 (toN x.1.1)).2.2.1,false)),r19.2.2.2.2.1,r19.2.2.2.2.2.1,r19.2.2.2.2.2.2.1,r19.2.2.2.2.2.2.2)).bind fun r20 =>
 (loop Z8h ((((List.length r20.2.2.2.1):Nat):Int),(0:Int),r20.1,r20.2.1,x.1,r20.2.2.2.1,r20.2.2.1,r20.2.2.2.2.1,r20.2.2.2.2.2.1,r20.2.2.2.2.2.2)).bind fun r21 =>
 some (r21.1,r21.2.1,r21.2.2.1,r21.2.2.2.1,r21.2.2.2.2.1,r21.2.2.2.2.2.1,r21.2.2.2.2.2.2)
 else
 none
abbrev Zrd:=Spec.shp Zjf Zne Z1y
def Zbs:Ctx:={ tb:=mkTb T2.tbl,fx:=[(78,[],Zrh),(40,[],Zry),(120,[],Zrf),(168,[],Zqg)],sum:=[(0,13,Yav Zhe Zg4 (loop Z8h))],nt:=120,pin:=1,nr:=true,ys:=[] }
theorem Z1z:Sound Tryz.prog 123 (Zrd) :=
 Sound.shp (C:=Zbs) (fn:=Tryz.f123) (by kernel_rfl) (c:=bodyOf Tryz.f123) (by kernel_rfl) (by decide) (ctxOK mixed tbl_ok rfl ⟨Z27,Z36,Z23,Z3,trivial⟩ trivial) (SumOK.of ⟨(Yax (d:=.loop (loopOf 13 Tryz.f123)) (by kernel_rfl) Z8i),trivial⟩) (by kernel_rfl) Zjf Zne rfl (by decide) (by decide) rfl (by decide) rfl Z1y (fun x=>by kernel_rfl)
abbrev Zjq:Shape:={ sl:=sl_29,bl:=bl_2,ts:=[y5,(.int .i64),.bool,y39,y4,y18,y41,y19,y26,y27],pin:=0 }
abbrev Znp:Shape:={ sl:=[],bl:=bl_2,ts:=ts_11,pin:=1 }
def Z2k (x:(T7 × Int × Bool × T47 × (Int × Int) × List (T17) × List T43 × List (T18) × List T29 × List (T20))):Option T57 :=
 (Z2g (x.1,x.2.1,x.2.2.1,x.2.2.2.1,x.2.2.2.2.1,x.2.2.2.2.2.1,x.2.2.2.2.2.2.1,x.2.2.2.2.2.2.2.1,x.2.2.2.2.2.2.2.2.1,x.2.2.2.2.2.2.2.2.2)).bind fun r16 =>
 bif (r16.1.1 == (0:Int)) then
 (Z39 (x.1.1,r16.2.1,r16.2.2.1,r16.2.2.2.1,r16.2.2.2.2.1,r16.2.2.2.2.2.1,r16.2.2.2.2.2.2.1,r16.2.2.2.2.2.2.2)).bind fun r17 =>
 some (r17.1,r17.2.1,r17.2.2.1,r17.2.2.2.1,r17.2.2.2.2.1,r17.2.2.2.2.2.1,r17.2.2.2.2.2.2)
 else
 bif (r16.1.1 == (3:Int)) then
 some (r16.2.1,(r16.2.2.1.1,(3:Int)),r16.2.2.2.1,r16.2.2.2.2.1,r16.2.2.2.2.2.1,r16.2.2.2.2.2.2.1,r16.2.2.2.2.2.2.2)
 else
 bif (r16.1.2.2.1.1 != (Int.negSucc 0)) then
 (Z1y (r16.1.2.2.1,x.2.1,r16.1.2.2.2,(1:Int),r16.2.1,r16.2.2.1,r16.2.2.2.1,r16.2.2.2.2.1,r16.2.2.2.2.2.1,r16.2.2.2.2.2.2.1,r16.2.2.2.2.2.2.2)).bind fun r17 =>
 (Z1y (x.1,x.2.1,r16.1.2.1,r16.1.1,r17.1,r17.2.1,r17.2.2.1,r17.2.2.2.1,r17.2.2.2.2.1,r17.2.2.2.2.2.1,r17.2.2.2.2.2.2)).bind fun r18 =>
 some (r18.1,r18.2.1,r18.2.2.1,r18.2.2.2.1,r18.2.2.2.2.1,r18.2.2.2.2.2.1,r18.2.2.2.2.2.2)
 else
 (Z1y (x.1,x.2.1,r16.1.2.1,r16.1.1,r16.2.1,r16.2.2.1,r16.2.2.2.1,r16.2.2.2.2.1,r16.2.2.2.2.2.1,r16.2.2.2.2.2.2.1,r16.2.2.2.2.2.2.2)).bind fun r17 =>
 some (r17.1,r17.2.1,r17.2.2.1,r17.2.2.2.1,r17.2.2.2.2.1,r17.2.2.2.2.2.1,r17.2.2.2.2.2.2)
abbrev Zro:=Spec.shp Zjq Znp Z2k
def Zc5:Ctx:={ tb:=mkTb T2.tbl,fx:=[(124,[],Zrm),(125,[],Zs0),(123,[],Zrd)],sum:=[],nt:=47,pin:=1,nr:=true,ys:=[] }
theorem Z2l:Sound Tryz.prog 121 (Zro) :=
 Sound.shp (C:=Zc5) (fn:=Tryz.f121) (by kernel_rfl) (c:=bodyOf Tryz.f121) (by kernel_rfl) (by decide) (ctxOK mixed tbl_ok rfl ⟨Z2h,Z3a,Z1z,trivial⟩ trivial) (SumOK.of trivial) (by kernel_rfl) Zjq Znp rfl (by decide) (by decide) rfl (by decide) rfl Z2k (fun x=>by kernel_rfl)
abbrev Zju:Shape:={ sl:=sl_26,bl:=bl_2,ts:=ts_14,pin:=0 }
abbrev Znt:Shape:={ sl:=[],bl:=bl_2,ts:=ts_11,pin:=1 }
def Z2s (x:T60):Option T57 :=
 (Z35 (x.1.1,(2:Int),x.2.1.2.1,(0:Int),(Int.negSucc 0),x.2.2.1,x.2.2.2.1,x.2.2.2.2.1,x.2.2.2.2.2.1,x.2.2.2.2.2.2.1,x.2.2.2.2.2.2.2.1,x.2.2.2.2.2.2.2.2)).bind fun r14 =>
 (Z2k ((x.1.1,(0:Int),r14.1),x.2.1.2.1,true,r14.2.1,r14.2.2.1,r14.2.2.2.1,r14.2.2.2.2.1,r14.2.2.2.2.2.1,r14.2.2.2.2.2.2.1,r14.2.2.2.2.2.2.2)).bind fun r15 =>
 some (r15.1,r15.2.1,r15.2.2.1,r15.2.2.2.1,r15.2.2.2.2.1,r15.2.2.2.2.2.1,r15.2.2.2.2.2.2)
abbrev Zrs:=Spec.shp Zju Znt Z2s
def Zca:Ctx:={ tb:=mkTb T2.tbl,fx:=[(40,[],Zry),(121,[],Zro)],sum:=[],nt:=21,pin:=1,nr:=true,ys:=[] }
theorem Z2t:Sound Tryz.prog 65 (Zrs) :=
 Sound.shp (C:=Zca) (fn:=Tryz.f65) (by kernel_rfl) (c:=bodyOf Tryz.f65) (by kernel_rfl) (by decide) (ctxOK mixed tbl_ok rfl ⟨Z36,Z2l,trivial⟩ trivial) (SumOK.of trivial) (by kernel_rfl) Zju Znt rfl (by decide) (by decide) rfl (by decide) rfl Z2s (fun x=>by kernel_rfl)
abbrev Zjs:Shape:={ sl:=sl_26,bl:=bl_2,ts:=ts_14,pin:=0 }
abbrev Znr:Shape:={ sl:=[],bl:=bl_2,ts:=ts_11,pin:=1 }
def Z2o (x:T60):Option T57 :=
 (Z35 (x.1.1,(4:Int),x.2.1.2.1,(0:Int),(Int.negSucc 0),x.2.2.1,x.2.2.2.1,x.2.2.2.2.1,x.2.2.2.2.2.1,x.2.2.2.2.2.2.1,x.2.2.2.2.2.2.2.1,x.2.2.2.2.2.2.2.2)).bind fun r14 =>
 (Z2k ((x.1.1,(0:Int),r14.1),x.2.1.2.1,false,r14.2.1,r14.2.2.1,r14.2.2.2.1,r14.2.2.2.2.1,r14.2.2.2.2.2.1,r14.2.2.2.2.2.2.1,r14.2.2.2.2.2.2.2)).bind fun r15 =>
 some (r15.1,r15.2.1,r15.2.2.1,r15.2.2.2.1,r15.2.2.2.2.1,r15.2.2.2.2.2.1,r15.2.2.2.2.2.2)
abbrev Zrq:=Spec.shp Zjs Znr Z2o
def Zc7:Ctx:={ tb:=mkTb T2.tbl,fx:=[(40,[],Zry),(121,[],Zro)],sum:=[],nt:=21,pin:=1,nr:=true,ys:=[] }
theorem Z2p:Sound Tryz.prog 66 (Zrq) :=
 Sound.shp (C:=Zc7) (fn:=Tryz.f66) (by kernel_rfl) (c:=bodyOf Tryz.f66) (by kernel_rfl) (by decide) (ctxOK mixed tbl_ok rfl ⟨Z36,Z2l,trivial⟩ trivial) (SumOK.of trivial) (by kernel_rfl) Zjs Znr rfl (by decide) (by decide) rfl (by decide) rfl Z2o (fun x=>by kernel_rfl)
abbrev Zih:Shape:={ sl:=[(0,(.hole y40))],bl:=[],ts:=[y40],pin:=0 }
abbrev Zmg:Shape:={ sl:=[(0,(.hole y40)),(1,(.hole (.slice y5))),(2,(.hole .bool)),(3,(.hole (.int .i64)))],bl:=[],ts:=[y40,(.slice y5),.bool,(.int .i64)],pin:=0 }
def Z0 (x:T43):Option ((Int × T40) × List (T7) × Bool × Int) :=
 (Za x).bind fun r15 =>
 bif (Bool.not r15) then
 some (((0:Int),false,((0:Int),(0:Int),([]:List Int),(0:Int)),(0:Int),(0:Int),([]:List T7),([]:List T7)),([]:List T7),false,(1:Int))
 else
 bif (decide (x.1 < (0:Int))) then
 some (x,([]:List T7),true,(0:Int))
 else
 bif x.2.1 then
 some (x,([]:List T7),true,(0:Int))
 else
 bif (decide ((((List.length x.2.2.2.2.2.1):Nat):Int) > (0:Int))) then
 some (x,([]:List T7),true,(0:Int))
 else
 some ((x.1,true,x.2.2.1,x.2.2.2.1,x.2.2.2.2.1,x.2.2.2.2.2.1,([]:List T7)),x.2.2.2.2.2.2,false,(0:Int))
abbrev Zqf:=Spec.shp Zih Zmg Z0
def Zan:Ctx:={ tb:=mkTb T2.tbl,fx:=[(112,[],Zqk)],sum:=[],nt:=31,pin:=0,nr:=true,ys:=[] }
theorem Z1:Sound Tryz.prog 122 (Zqf) :=
 Sound.shp (C:=Zan) (fn:=Tryz.f122) (by kernel_rfl) (c:=bodyOf Tryz.f122) (by kernel_rfl) (by decide) (ctxOK mixed tbl_ok rfl ⟨Zb,trivial⟩ trivial) (SumOK.of trivial) (by kernel_rfl) Zih Zmg rfl (by decide) (by decide) rfl (by decide) rfl Z0 (fun x=>by kernel_rfl)
abbrev Zhh:Shape:={ sl:=[(0,(.ptr 0 [])),(5,(.ptr 1 [])),(10,(.mp 2)),(53,(.hole (.slice y5))),(54,(.hole (.int .i64))),(55,(.hole (.int .i64)))],bl:=[.var (.pr (.pr (.hole y39) (.pr (.sl 3) (.pr (.sl 4) (.pr (.sl 5) (.pr (.sl 6) (.hole y4)))))) (.sl 7)),.var (.hole y5),.mp (.int .i64) (.int .i64),.row y12,.row y40,.row y15,.row y23,.row y24],ts:=[(.slice y5),(.int .i64),(.int .i64),y39,y4,y5,(.slice y4),y18,y41,y19,y26,y27],pin:=1 }
abbrev Zg7:List (ETag × Shape):=[(.exit 0,{ sl:=[],bl:=bl_2,ts:=ts_11,pin:=1 })]
def Z8n (x:(List (T7) × Int × Int × T47 × (Int × Int) × T7 × List (Int × Int) × List (T17) × List T43 × List (T18) × List T29 × List (T20))):Option ((List (T7) × Int × Int × T47 × (Int × Int) × T7 × List (Int × Int) × List (T17) × List T43 × List (T18) × List T29 × List (T20)) ⊕ (T57)) :=
 bif (decide (x.2.2.1 < x.2.1)) then
 bif (inb x.2.2.1 (List.length x.1)) then
 bif ((@mlook (Int) (Int) (Ty.beq (.int .i64)) (Ty.zero (.int .i64)) (getAt ((0:Int),(0:Int),(0:Int)) x.1 (toN x.2.2.1)).1 (@mput (Int) (Int) (Ty.beq (.int .i64)) (getAt ((0:Int),(0:Int),(0:Int)) x.1 (toN x.2.2.1)).1 (IntKind.wrap .i64 ((@mlook (Int) (Int) (Ty.beq (.int .i64)) (Ty.zero (.int .i64)) (getAt ((0:Int),(0:Int),(0:Int)) x.1 (toN x.2.2.1)).1 x.2.2.2.2.2.2.1)+(1:Int))) x.2.2.2.2.2.2.1)) == (1:Int)) then
 (Z1y ((getAt ((0:Int),(0:Int),(0:Int)) x.1 (toN x.2.2.1)),x.2.2.2.2.2.1.2.1,(0:Int),(2:Int),x.2.2.2.1,x.2.2.2.2.1,x.2.2.2.2.2.2.2.1,x.2.2.2.2.2.2.2.2.1,x.2.2.2.2.2.2.2.2.2.1,x.2.2.2.2.2.2.2.2.2.2.1,x.2.2.2.2.2.2.2.2.2.2.2)).bind fun r18 =>
 some (.inl (x.1,x.2.1,(IntKind.wrap .i64 (x.2.2.1+(1:Int))),r18.1,r18.2.1,x.2.2.2.2.2.1,(@mput (Int) (Int) (Ty.beq (.int .i64)) (getAt ((0:Int),(0:Int),(0:Int)) x.1 (toN x.2.2.1)).1 (IntKind.wrap .i64 ((@mlook (Int) (Int) (Ty.beq (.int .i64)) (Ty.zero (.int .i64)) (getAt ((0:Int),(0:Int),(0:Int)) x.1 (toN x.2.2.1)).1 x.2.2.2.2.2.2.1)+(1:Int))) x.2.2.2.2.2.2.1),r18.2.2.1,r18.2.2.2.1,r18.2.2.2.2.1,r18.2.2.2.2.2.1,r18.2.2.2.2.2.2))
 else
 some (.inl (x.1,x.2.1,(IntKind.wrap .i64 (x.2.2.1+(1:Int))),x.2.2.2.1,x.2.2.2.2.1,x.2.2.2.2.2.1,(@mput (Int) (Int) (Ty.beq (.int .i64)) (getAt ((0:Int),(0:Int),(0:Int)) x.1 (toN x.2.2.1)).1 (IntKind.wrap .i64 ((@mlook (Int) (Int) (Ty.beq (.int .i64)) (Ty.zero (.int .i64)) (getAt ((0:Int),(0:Int),(0:Int)) x.1 (toN x.2.2.1)).1 x.2.2.2.2.2.2.1)+(1:Int))) x.2.2.2.2.2.2.1),x.2.2.2.2.2.2.2.1,x.2.2.2.2.2.2.2.2.1,x.2.2.2.2.2.2.2.2.2.1,x.2.2.2.2.2.2.2.2.2.2.1,x.2.2.2.2.2.2.2.2.2.2.2))
 else
 none
 else
 some (.inr (x.2.2.2.1,x.2.2.2.2.1,x.2.2.2.2.2.2.2.1,x.2.2.2.2.2.2.2.2.1,x.2.2.2.2.2.2.2.2.2.1,x.2.2.2.2.2.2.2.2.2.2.1,x.2.2.2.2.2.2.2.2.2.2.2))
def Zcf:Ctx:={ tb:=mkTb T2.tbl,fx:=[(122,[],Zqf),(40,[],Zry),(120,[],Zrf),(123,[],Zrd)],sum:=[],nt:=75,pin:=1,nr:=true,ys:=[] }
theorem Z8o:CSound Tryz.prog ⟨75,1,true⟩ (.loop (loopOf 10 Tryz.f67)) (Yav Zhh Zg7 (loop Z8n)) :=
 Y8e (C:=Zcf) (ctxOK mixed tbl_ok rfl ⟨Z1,Z36,Z23,Z1z,trivial⟩ trivial) (SumOK.of trivial) Zhh Zg7 rfl rfl Z8n (fun x=>by kernel_rfl)
abbrev Zjy:Shape:={ sl:=sl_26,bl:=bl_2,ts:=ts_14,pin:=0 }
abbrev Znx:Shape:={ sl:=[],bl:=bl_2,ts:=ts_11,pin:=1 }
def Z31 (x:T60):Option T57 :=
 bif (inb x.2.1.2.1 (List.length x.2.2.2.2.2.1)) then
 (Z0 (getAt ((0:Int),false,((0:Int),(0:Int),([]:List Int),(0:Int)),(0:Int),(0:Int),([]:List T7),([]:List T7)) x.2.2.2.2.2.1 (toN x.2.1.2.1))).bind fun r14 =>
 bif r14.2.2.1 then
 some (x.2.2.1,(x.2.2.2.1.1,(3:Int)),x.2.2.2.2.1,x.2.2.2.2.2.1,x.2.2.2.2.2.2.1,x.2.2.2.2.2.2.2.1,x.2.2.2.2.2.2.2.2)
 else
 bif (inb x.2.1.2.1 (List.length x.2.2.2.2.2.1)) then
 (Z35 (x.1.1,(7:Int),x.2.1.2.1,(0:Int),(Int.negSucc 0),x.2.2.1,x.2.2.2.1,x.2.2.2.2.1,(List.set x.2.2.2.2.2.1 (toN x.2.1.2.1) r14.1),x.2.2.2.2.2.2.1,x.2.2.2.2.2.2.2.1,x.2.2.2.2.2.2.2.2)).bind fun r15 =>
 (Z22 (x.1.1,r15.2.1,r15.2.2.1,r15.2.2.2.1,r15.2.2.2.2.1,r15.2.2.2.2.2.1,r15.2.2.2.2.2.2.1,r15.2.2.2.2.2.2.2)).bind fun r16 =>
 (loop Z8n (r14.2.1,(((List.length r14.2.1):Nat):Int),(0:Int),r16.1,r16.2.1,x.2.1,([]:List (Int × Int)),r16.2.2.1,r16.2.2.2.1,r16.2.2.2.2.1,r16.2.2.2.2.2.1,r16.2.2.2.2.2.2)).bind fun r17 =>
 some (r17.1,r17.2.1,r17.2.2.1,r17.2.2.2.1,r17.2.2.2.2.1,r17.2.2.2.2.2.1,r17.2.2.2.2.2.2)
 else
 none
 else
 none
abbrev Zrw:=Spec.shp Zjy Znx Z31
def Zce:Ctx:={ tb:=mkTb T2.tbl,fx:=[(122,[],Zqf),(40,[],Zry),(120,[],Zrf),(123,[],Zrd)],sum:=[(0,10,Yav Zhh Zg7 (loop Z8n))],nt:=75,pin:=1,nr:=true,ys:=[] }
theorem Z32:Sound Tryz.prog 67 (Zrw) :=
 Sound.shp (C:=Zce) (fn:=Tryz.f67) (by kernel_rfl) (c:=bodyOf Tryz.f67) (by kernel_rfl) (by decide) (ctxOK mixed tbl_ok rfl ⟨Z1,Z36,Z23,Z1z,trivial⟩ trivial) (SumOK.of ⟨(Yax (d:=.loop (loopOf 10 Tryz.f67)) (by kernel_rfl) Z8o),trivial⟩) (by kernel_rfl) Zjy Znx rfl (by decide) (by decide) rfl (by decide) rfl Z31 (fun x=>by kernel_rfl)
abbrev Zhg:Shape:={ sl:=[(0,(.ptr 0 [])),(4,(.ptr 1 [])),(6,(.hole (.int .i64))),(28,(.hole (.slice y2))),(29,(.hole (.int .i64))),(30,(.hole (.int .i64)))],bl:=bl_15,ts:=[(.int .i64),(.slice y2),(.int .i64),(.int .i64),y39,y4,y4,y18,y41,y19,y26,y27],pin:=1 }
abbrev Zg6:List (ETag × Shape):=[(.exit 1,{ sl:=[(0,(.ptr 0 [])),(4,(.ptr 1 []))],bl:=bl_15,ts:=[y39,y4,y4,y18,y41,y19,y26,y27],pin:=1 })]
def Z8l (x:(Int × List T0 × Int × Int × T47 × (Int × Int) × (Int × Int) × List (T17) × List T43 × List (T18) × List T29 × List (T20))):Option ((Int × List T0 × Int × Int × T47 × (Int × Int) × (Int × Int) × List (T17) × List T43 × List (T18) × List T29 × List (T20)) ⊕ (T47 × (Int × Int) × (Int × Int) × List (T17) × List T43 × List (T18) × List T29 × List (T20))) :=
 bif (decide (x.2.2.2.1 < x.2.2.1)) then
 bif (inb x.2.2.2.1 (List.length x.2.1)) then
 (Z2g ((x.2.2.2.2.2.2.1.1,x.2.2.2.1,x.1),(getAt (false,(0:Int)) x.2.1 (toN x.2.2.2.1)).2,(getAt (false,(0:Int)) x.2.1 (toN x.2.2.2.1)).1,x.2.2.2.2.1,x.2.2.2.2.2.1,x.2.2.2.2.2.2.2.1,x.2.2.2.2.2.2.2.2.1,x.2.2.2.2.2.2.2.2.2.1,x.2.2.2.2.2.2.2.2.2.2.1,x.2.2.2.2.2.2.2.2.2.2.2)).bind fun r16 =>
 some (.inl (x.1,x.2.1,x.2.2.1,(IntKind.wrap .i64 (x.2.2.2.1+(1:Int))),r16.2.1,r16.2.2.1,x.2.2.2.2.2.2.1,r16.2.2.2.1,r16.2.2.2.2.1,r16.2.2.2.2.2.1,r16.2.2.2.2.2.2.1,r16.2.2.2.2.2.2.2))
 else
 none
 else
 some (.inr (x.2.2.2.2.1,x.2.2.2.2.2.1,x.2.2.2.2.2.2.1,x.2.2.2.2.2.2.2.1,x.2.2.2.2.2.2.2.2.1,x.2.2.2.2.2.2.2.2.2.1,x.2.2.2.2.2.2.2.2.2.2.1,x.2.2.2.2.2.2.2.2.2.2.2))
def Zc9:Ctx:={ tb:=mkTb T2.tbl,fx:=[(40,[],Zry),(121,[],Zro),(120,[],Zrf),(124,[],Zrm)],sum:=[],nt:=87,pin:=1,nr:=true,ys:=[] }
theorem Z8m:CSound Tryz.prog ⟨87,1,true⟩ (.loop (loopOf 5 Tryz.f68)) (Yav Zhg Zg6 (loop Z8l)) :=
 Y8e (C:=Zc9) (ctxOK mixed tbl_ok rfl ⟨Z36,Z2l,Z23,Z2h,trivial⟩ trivial) (SumOK.of trivial) Zhg Zg6 rfl rfl Z8l (fun x=>by kernel_rfl)
abbrev Zjt:Shape:={ sl:=sl_26,bl:=bl_2,ts:=ts_14,pin:=0 }
abbrev Zns:Shape:={ sl:=[],bl:=bl_2,ts:=ts_11,pin:=1 }
def Z2q (x:T60):Option T57 :=
 (Z35 (x.1.1,(8:Int),x.2.1.2.1,(0:Int),(Int.negSucc 0),x.2.2.1,x.2.2.2.1,x.2.2.2.2.1,x.2.2.2.2.2.1,x.2.2.2.2.2.2.1,x.2.2.2.2.2.2.2.1,x.2.2.2.2.2.2.2.2)).bind fun r14 =>
 bif (inb x.2.1.2.1 (List.length r14.2.1.2.2.2.2.1)) then
 bif (x.1.2 != (Int.negSucc 0)) then
 bif (inb x.1.2 (List.length (getAt (([]:List T0),false) r14.2.1.2.2.2.2.1 (toN x.2.1.2.1)).1)) then
 (Z2k ((x.1.1,x.1.2,r14.1),(getAt (false,(0:Int)) (getAt (([]:List T0),false) r14.2.1.2.2.2.2.1 (toN x.2.1.2.1)).1 (toN x.1.2)).2,(getAt (false,(0:Int)) (getAt (([]:List T0),false) r14.2.1.2.2.2.2.1 (toN x.2.1.2.1)).1 (toN x.1.2)).1,r14.2.1,r14.2.2.1,r14.2.2.2.1,r14.2.2.2.2.1,r14.2.2.2.2.2.1,r14.2.2.2.2.2.2.1,r14.2.2.2.2.2.2.2)).bind fun r15 =>
 some (r15.1,r15.2.1,r15.2.2.1,r15.2.2.2.1,r15.2.2.2.2.1,r15.2.2.2.2.2.1,r15.2.2.2.2.2.2)
 else
 none
 else
 bif (getAt (([]:List T0),false) r14.2.1.2.2.2.2.1 (toN x.2.1.2.1)).2 then
 (Z35 (x.1.1,(9:Int),x.2.1.2.1,(0:Int),r14.1,r14.2.1,r14.2.2.1,r14.2.2.2.1,r14.2.2.2.2.1,r14.2.2.2.2.2.1,r14.2.2.2.2.2.2.1,r14.2.2.2.2.2.2.2)).bind fun r15 =>
 (Z22 (x.1.1,r15.2.1,r15.2.2.1,r15.2.2.2.1,r15.2.2.2.2.1,r15.2.2.2.2.2.1,r15.2.2.2.2.2.2.1,r15.2.2.2.2.2.2.2)).bind fun r16 =>
 some (r16.1,r16.2.1,r16.2.2.1,r16.2.2.2.1,r16.2.2.2.2.1,r16.2.2.2.2.2.1,r16.2.2.2.2.2.2)
 else
 (loop Z8l (r14.1,(getAt (([]:List T0),false) r14.2.1.2.2.2.2.1 (toN x.2.1.2.1)).1,(((List.length (getAt (([]:List T0),false) r14.2.1.2.2.2.2.1 (toN x.2.1.2.1)).1):Nat):Int),(0:Int),r14.2.1,r14.2.2.1,x.1,r14.2.2.2.1,r14.2.2.2.2.1,r14.2.2.2.2.2.1,r14.2.2.2.2.2.2.1,r14.2.2.2.2.2.2.2)).bind fun r15 =>
 (Z39 (r15.2.2.1.1,r15.1,r15.2.1,r15.2.2.2.1,r15.2.2.2.2.1,r15.2.2.2.2.2.1,r15.2.2.2.2.2.2.1,r15.2.2.2.2.2.2.2)).bind fun r16 =>
 some (r16.1,r16.2.1,r16.2.2.1,r16.2.2.2.1,r16.2.2.2.2.1,r16.2.2.2.2.2.1,r16.2.2.2.2.2.2)
 else
 none
abbrev Zrr:=Spec.shp Zjt Zns Z2q
def Zc8:Ctx:={ tb:=mkTb T2.tbl,fx:=[(40,[],Zry),(121,[],Zro),(120,[],Zrf),(124,[],Zrm),(125,[],Zs0)],sum:=[(0,5,Yav Zhg Zg6 (loop Z8l))],nt:=87,pin:=1,nr:=true,ys:=[] }
theorem Z2r:Sound Tryz.prog 68 (Zrr) :=
 Sound.shp (C:=Zc8) (fn:=Tryz.f68) (by kernel_rfl) (c:=bodyOf Tryz.f68) (by kernel_rfl) (by decide) (ctxOK mixed tbl_ok rfl ⟨Z36,Z2l,Z23,Z2h,Z3a,trivial⟩ trivial) (SumOK.of ⟨(Yax (d:=.loop (loopOf 5 Tryz.f68)) (by kernel_rfl) Z8m),trivial⟩) (by kernel_rfl) Zjt Zns rfl (by decide) (by decide) rfl (by decide) rfl Z2q (fun x=>by kernel_rfl)
abbrev Zj0:Shape:={ sl:=[(0,(.hole (.one (.slice y5))))],bl:=[],ts:=[(.one (.slice y5))],pin:=0 }
abbrev Zmz:Shape:={ sl:=[(0,(.hole y15))],bl:=[],ts:=[y15],pin:=0 }
def Z14 (x:(List (T7))):Option (T18) :=
 some (true,x)
abbrev Zqy:=Spec.shp Zj0 Zmz Z14
def Zb7:Ctx:={ tb:=mkTb T2.tbl,fx:=[],sum:=[],nt:=6,pin:=0,nr:=true,ys:=[] }
theorem Z15:Sound Tryz.prog 172 (Zqy) :=
 Sound.shp (C:=Zb7) (fn:=Tryz.f172) (by kernel_rfl) (c:=bodyOf Tryz.f172) (by kernel_rfl) (by decide) (ctxOK mixed tbl_ok rfl trivial trivial) (SumOK.of trivial) (by kernel_rfl) Zj0 Zmz rfl (by decide) (by decide) rfl (by decide) rfl Z14 (fun x=>by kernel_rfl)
abbrev Ziz:Shape:={ sl:=[(0,(.hole y15)),(1,(.hole y5))],bl:=[],ts:=[y15,y5],pin:=0 }
abbrev Zmy:Shape:={ sl:=[(0,(.hole y15)),(1,(.hole .bool)),(2,(.hole (.int .i64)))],bl:=[],ts:=[y15,.bool,(.int .i64)],pin:=0 }
def Z12 (x:(T18 × T7)):Option (T18 × Bool × Int) :=
 (Z7t (x.1.2,x.2)).bind fun r16 =>
 (Z10 x.1).bind fun r17 =>
 bif (Bool.not r17) then
 some ((false,([]:List T7)),false,(1:Int))
 else
 bif (r16.2 == (1:Int)) then
 some ((false,([]:List T7)),false,(1:Int))
 else
 bif (Bool.not x.1.1) then
 (Z14 ([]:List T7)).bind fun r18 =>
 some (r18,true,(0:Int))
 else
 bif (r16.2 != (0:Int)) then
 some ((false,([]:List T7)),false,r16.2)
 else
 (Z14 r16.1).bind fun r18 =>
 some (r18,false,(0:Int))
abbrev Zqx:=Spec.shp Ziz Zmy Z12
def Zb6:Ctx:={ tb:=mkTb T2.tbl,fx:=[(171,[],Zu8),(117,[],Zqw),(172,[],Zqy)],sum:=[],nt:=39,pin:=0,nr:=true,ys:=[] }
theorem Z13:Sound Tryz.prog 126 (Zqx) :=
 Sound.shp (C:=Zb6) (fn:=Tryz.f126) (by kernel_rfl) (c:=bodyOf Tryz.f126) (by kernel_rfl) (by decide) (ctxOK mixed tbl_ok rfl ⟨Z7u,Z11,Z15,trivial⟩ trivial) (SumOK.of trivial) (by kernel_rfl) Ziz Zmy rfl (by decide) (by decide) rfl (by decide) rfl Z12 (fun x=>by kernel_rfl)
abbrev Zjm:Shape:={ sl:=[(0,(.ptr 0 [])),(1,(.hole (.int .i64))),(2,(.hole (.int .i64))),(3,(.hole (.int .i64)))],bl:=bl_2,ts:=[(.int .i64),(.int .i64),(.int .i64),y39,y4,y18,y41,y19,y26,y27],pin:=0 }
abbrev Znl:Shape:={ sl:=[],bl:=bl_2,ts:=ts_11,pin:=1 }
def Z2c (x:(Int × Int × Int × T47 × (Int × Int) × List (T17) × List T43 × List (T18) × List T29 × List (T20))):Option T57 :=
 (Z35 (x.1,(11:Int),x.2.1,(0:Int),x.2.2.1,x.2.2.2.1,x.2.2.2.2.1,x.2.2.2.2.2.1,x.2.2.2.2.2.2.1,x.2.2.2.2.2.2.2.1,x.2.2.2.2.2.2.2.2.1,x.2.2.2.2.2.2.2.2.2)).bind fun r17 =>
 (Z22 (x.1,r17.2.1,r17.2.2.1,r17.2.2.2.1,r17.2.2.2.2.1,r17.2.2.2.2.2.1,r17.2.2.2.2.2.2.1,r17.2.2.2.2.2.2.2)).bind fun r18 =>
 some (r18.1,r18.2.1,r18.2.2.1,r18.2.2.2.1,r18.2.2.2.2.1,r18.2.2.2.2.2.1,r18.2.2.2.2.2.2)
abbrev Zrk:=Spec.shp Zjm Znl Z2c
def Zc1:Ctx:={ tb:=mkTb T2.tbl,fx:=[(40,[],Zry),(120,[],Zrf)],sum:=[],nt:=16,pin:=1,nr:=true,ys:=[] }
theorem Z2d:Sound Tryz.prog 127 (Zrk) :=
 Sound.shp (C:=Zc1) (fn:=Tryz.f127) (by kernel_rfl) (c:=bodyOf Tryz.f127) (by kernel_rfl) (by decide) (ctxOK mixed tbl_ok rfl ⟨Z36,Z23,trivial⟩ trivial) (SumOK.of trivial) (by kernel_rfl) Zjm Znl rfl (by decide) (by decide) rfl (by decide) rfl Z2c (fun x=>by kernel_rfl)
abbrev Zjl:Shape:={ sl:=sl_26,bl:=bl_2,ts:=ts_14,pin:=0 }
abbrev Znk:Shape:={ sl:=[],bl:=bl_2,ts:=ts_11,pin:=1 }
def Z2a (x:T60):Option T57 :=
 (Z35 (x.1.1,(10:Int),x.2.1.2.1,(0:Int),(Int.negSucc 0),x.2.2.1,x.2.2.2.1,x.2.2.2.2.1,x.2.2.2.2.2.1,x.2.2.2.2.2.2.1,x.2.2.2.2.2.2.2.1,x.2.2.2.2.2.2.2.2)).bind fun r14 =>
 bif (inb x.2.1.2.1 (List.length r14.2.2.2.2.2.1)) then
 (Z12 ((getAt (false,([]:List T7)) r14.2.2.2.2.2.1 (toN x.2.1.2.1)),x.1.1,(0:Int),r14.1)).bind fun r15 =>
 bif (inb x.2.1.2.1 (List.length r14.2.2.2.2.2.1)) then
 bif (Bool.not r15.2.1) then
 (Z39 (x.1.1,r14.2.1,r14.2.2.1,r14.2.2.2.1,r14.2.2.2.2.1,(List.set r14.2.2.2.2.2.1 (toN x.2.1.2.1) r15.1),r14.2.2.2.2.2.2.1,r14.2.2.2.2.2.2.2)).bind fun r16 =>
 some (r16.1,r16.2.1,r16.2.2.1,r16.2.2.2.1,r16.2.2.2.2.1,r16.2.2.2.2.2.1,r16.2.2.2.2.2.2)
 else
 (Z2c (x.1.1,x.2.1.2.1,r14.1,r14.2.1,r14.2.2.1,r14.2.2.2.1,r14.2.2.2.2.1,(List.set r14.2.2.2.2.2.1 (toN x.2.1.2.1) r15.1),r14.2.2.2.2.2.2.1,r14.2.2.2.2.2.2.2)).bind fun r16 =>
 some (r16.1,r16.2.1,r16.2.2.1,r16.2.2.2.1,r16.2.2.2.2.1,r16.2.2.2.2.2.1,r16.2.2.2.2.2.2)
 else
 none
 else
 none
abbrev Zrj:=Spec.shp Zjl Znk Z2a
def Zc0:Ctx:={ tb:=mkTb T2.tbl,fx:=[(40,[],Zry),(126,[],Zqx),(125,[],Zs0),(127,[],Zrk)],sum:=[],nt:=56,pin:=1,nr:=true,ys:=[] }
theorem Z2b:Sound Tryz.prog 69 (Zrj) :=
 Sound.shp (C:=Zc0) (fn:=Tryz.f69) (by kernel_rfl) (c:=bodyOf Tryz.f69) (by kernel_rfl) (by decide) (ctxOK mixed tbl_ok rfl ⟨Z36,Z13,Z3a,Z2d,trivial⟩ trivial) (SumOK.of trivial) (by kernel_rfl) Zjl Znk rfl (by decide) (by decide) rfl (by decide) rfl Z2a (fun x=>by kernel_rfl)
abbrev Zix:Shape:={ sl:=[(0,(.hole y15))],bl:=[],ts:=[y15],pin:=0 }
abbrev Zmw:Shape:={ sl:=[(0,(.hole y15)),(1,(.hole y5)),(2,(.hole .bool)),(3,(.hole (.int .i64)))],bl:=[],ts:=[y15,y5,.bool,(.int .i64)],pin:=0 }
def Zy (x:(T18)):Option (T18 × T7 × Bool × Int) :=
 (Z10 x).bind fun r15 =>
 bif (Bool.not r15) then
 some ((false,([]:List T7)),((0:Int),(0:Int),(0:Int)),false,(1:Int))
 else
 bif (Bool.not x.1) then
 some ((false,([]:List T7)),((0:Int),(0:Int),(0:Int)),false,(6:Int))
 else
 bif ((((List.length x.2):Nat):Int) == (0:Int)) then
 some ((false,([]:List T7)),((0:Int),(0:Int),(0:Int)),false,(0:Int))
 else
 bif (sub3 (1:Int) (((List.length x.2):Nat):Int) (List.length x.2)) then
 (Z14 (cut x.2 (toN (1:Int)) ((toN (((List.length x.2):Nat):Int)) - (toN (1:Int))))).bind fun r16 =>
 bif (inb (0:Int) (List.length x.2)) then
 some (r16,(getAt ((0:Int),(0:Int),(0:Int)) x.2 (toN (0:Int))),true,(0:Int))
 else
 none
 else
 none
abbrev Zqv:=Spec.shp Zix Zmw Zy
def Zb4:Ctx:={ tb:=mkTb T2.tbl,fx:=[(117,[],Zqw),(172,[],Zqy)],sum:=[],nt:=34,pin:=0,nr:=true,ys:=[] }
theorem Zz:Sound Tryz.prog 128 (Zqv) :=
 Sound.shp (C:=Zb4) (fn:=Tryz.f128) (by kernel_rfl) (c:=bodyOf Tryz.f128) (by kernel_rfl) (by decide) (ctxOK mixed tbl_ok rfl ⟨Z11,Z15,trivial⟩ trivial) (SumOK.of trivial) (by kernel_rfl) Zix Zmw rfl (by decide) (by decide) rfl (by decide) rfl Zy (fun x=>by kernel_rfl)
abbrev Zk1:Shape:={ sl:=sl_26,bl:=bl_2,ts:=ts_14,pin:=0 }
abbrev Zo0:Shape:={ sl:=[],bl:=bl_2,ts:=ts_11,pin:=1 }
def Z37 (x:T60):Option T57 :=
 bif (inb x.2.1.2.1 (List.length x.2.2.2.2.2.2.1)) then
 (Zy (getAt (false,([]:List T7)) x.2.2.2.2.2.2.1 (toN x.2.1.2.1))).bind fun r14 =>
 bif (r14.2.2.2 != (0:Int)) then
 some (x.2.2.1,(x.2.2.2.1.1,(3:Int)),x.2.2.2.2.1,x.2.2.2.2.2.1,x.2.2.2.2.2.2.1,x.2.2.2.2.2.2.2.1,x.2.2.2.2.2.2.2.2)
 else
 bif (inb x.2.1.2.1 (List.length x.2.2.2.2.2.2.1)) then
 (Z35 (x.1.1,(12:Int),x.2.1.2.1,(0:Int),(Int.negSucc 0),x.2.2.1,x.2.2.2.1,x.2.2.2.2.1,x.2.2.2.2.2.1,(List.set x.2.2.2.2.2.2.1 (toN x.2.1.2.1) r14.1),x.2.2.2.2.2.2.2.1,x.2.2.2.2.2.2.2.2)).bind fun r15 =>
 (Z22 (x.1.1,r15.2.1,r15.2.2.1,r15.2.2.2.1,r15.2.2.2.2.1,r15.2.2.2.2.2.1,r15.2.2.2.2.2.2.1,r15.2.2.2.2.2.2.2)).bind fun r16 =>
 bif r14.2.2.1 then
 (Z2c (r14.2.1.1,x.2.1.2.1,r14.2.1.2.2,r16.1,r16.2.1,r16.2.2.1,r16.2.2.2.1,r16.2.2.2.2.1,r16.2.2.2.2.2.1,r16.2.2.2.2.2.2)).bind fun r17 =>
 some (r17.1,r17.2.1,r17.2.2.1,r17.2.2.2.1,r17.2.2.2.2.1,r17.2.2.2.2.2.1,r17.2.2.2.2.2.2)
 else
 some (r16.1,r16.2.1,r16.2.2.1,r16.2.2.2.1,r16.2.2.2.2.1,r16.2.2.2.2.2.1,r16.2.2.2.2.2.2)
 else
 none
 else
 none
abbrev Zrz:=Spec.shp Zk1 Zo0 Z37
def Zci:Ctx:={ tb:=mkTb T2.tbl,fx:=[(128,[],Zqv),(40,[],Zry),(120,[],Zrf),(127,[],Zrk)],sum:=[],nt:=59,pin:=1,nr:=true,ys:=[] }
theorem Z38:Sound Tryz.prog 70 (Zrz) :=
 Sound.shp (C:=Zci) (fn:=Tryz.f70) (by kernel_rfl) (c:=bodyOf Tryz.f70) (by kernel_rfl) (by decide) (ctxOK mixed tbl_ok rfl ⟨Zz,Z36,Z23,Z2d,trivial⟩ trivial) (SumOK.of trivial) (by kernel_rfl) Zk1 Zo0 rfl (by decide) (by decide) rfl (by decide) rfl Z37 (fun x=>by kernel_rfl)
abbrev Zk8:Shape:={ sl:=sl_30,bl:=[],ts:=[y23,y5],pin:=0 }
abbrev Zo7:Shape:={ sl:=sl_31,bl:=[],ts:=ts_15,pin:=0 }
def Z3l (x:T30):Option T34 :=
 some (((1:Int),x.2.1,([]:List T7)),(0:Int),(0:Int))
abbrev Zs6:=Spec.shp Zk8 Zo7 Z3l
def Zcp:Ctx:={ tb:=mkTb T2.tbl,fx:=[],sum:=[],nt:=10,pin:=0,nr:=true,ys:=[] }
theorem Z3m:Sound Tryz.prog 173 (Zs6) :=
 Sound.shp (C:=Zcp) (fn:=Tryz.f173) (by kernel_rfl) (c:=bodyOf Tryz.f173) (by kernel_rfl) (by decide) (ctxOK mixed tbl_ok rfl trivial trivial) (SumOK.of trivial) (by kernel_rfl) Zk8 Zo7 rfl (by decide) (by decide) rfl (by decide) rfl Z3l (fun x=>by kernel_rfl)
abbrev Zka:Shape:={ sl:=sl_30,bl:=[],ts:=[y23,y5],pin:=0 }
abbrev Zo9:Shape:={ sl:=sl_31,bl:=[],ts:=ts_15,pin:=0 }
def Z3p (x:T30):Option T34 :=
 bif (x.1.2.1 == x.2.1) then
 some (((0:Int),(0:Int),([]:List T7)),(0:Int),(6:Int))
 else
 (Z7t (x.1.2.2,x.2)).bind fun r18 =>
 bif (r18.2 != (0:Int)) then
 some (((0:Int),(0:Int),([]:List T7)),(0:Int),r18.2)
 else
 some ((x.1.1,x.1.2.1,r18.1),(1:Int),(0:Int))
abbrev Zs8:=Spec.shp Zka Zo9 Z3p
def Zcr:Ctx:={ tb:=mkTb T2.tbl,fx:=[(171,[],Zu8)],sum:=[],nt:=29,pin:=0,nr:=true,ys:=[] }
theorem Z3q:Sound Tryz.prog 174 (Zs8) :=
 Sound.shp (C:=Zcr) (fn:=Tryz.f174) (by kernel_rfl) (c:=bodyOf Tryz.f174) (by kernel_rfl) (by decide) (ctxOK mixed tbl_ok rfl ⟨Z7u,trivial⟩ trivial) (SumOK.of trivial) (by kernel_rfl) Zka Zo9 rfl (by decide) (by decide) rfl (by decide) rfl Z3p (fun x=>by kernel_rfl)
abbrev Zk9:Shape:={ sl:=sl_30,bl:=[],ts:=[y23,y5],pin:=0 }
abbrev Zo8:Shape:={ sl:=sl_31,bl:=[],ts:=ts_15,pin:=0 }
def Z3n (x:T30):Option T34 :=
 some (x.1,(2:Int),(0:Int))
abbrev Zs7:=Spec.shp Zk9 Zo8 Z3n
def Zcq:Ctx:={ tb:=mkTb T2.tbl,fx:=[],sum:=[],nt:=8,pin:=0,nr:=true,ys:=[] }
theorem Z3o:Sound Tryz.prog 175 (Zs7) :=
 Sound.shp (C:=Zcq) (fn:=Tryz.f175) (by kernel_rfl) (c:=bodyOf Tryz.f175) (by kernel_rfl) (by decide) (ctxOK mixed tbl_ok rfl trivial trivial) (SumOK.of trivial) (by kernel_rfl) Zk9 Zo8 rfl (by decide) (by decide) rfl (by decide) rfl Z3n (fun x=>by kernel_rfl)
abbrev Zk5:Shape:={ sl:=sl_30,bl:=[],ts:=[y23,y5],pin:=0 }
abbrev Zo4:Shape:={ sl:=sl_31,bl:=[],ts:=ts_15,pin:=0 }
def Z3f (x:T30):Option T34 :=
 (Z3j x.1).bind fun r16 =>
 bif (Bool.not r16) then
 some (((0:Int),(0:Int),([]:List T7)),(0:Int),(1:Int))
 else
 bif (decide (x.2.1 < (0:Int))) then
 some (((0:Int),(0:Int),([]:List T7)),(0:Int),(1:Int))
 else
 bif (decide (x.2.2.1 < (0:Int))) then
 some (((0:Int),(0:Int),([]:List T7)),(0:Int),(1:Int))
 else
 bif (decide (x.2.2.2 < (0:Int))) then
 some (((0:Int),(0:Int),([]:List T7)),(0:Int),(1:Int))
 else
 bif (x.1.1 == (((0:Nat):Nat):Int)) then
 (Z3l (x.1,x.2)).bind fun r17 =>
 some (r17.1,r17.2.1,r17.2.2)
 else
 bif (x.1.1 == ((((0:Nat)+(1:Nat)):Nat):Int)) then
 (Z3p (x.1,x.2)).bind fun r17 =>
 some (r17.1,r17.2.1,r17.2.2)
 else
 bif (x.1.1 == (((((0:Nat)+(1:Nat))+(1:Nat)):Nat):Int)) then
 (Z3n (x.1,x.2)).bind fun r17 =>
 some (r17.1,r17.2.1,r17.2.2)
 else
 none
abbrev Zs3:=Spec.shp Zk5 Zo4 Z3f
def Zcm:Ctx:={ tb:=mkTb T2.tbl,fx:=[(118,[],Zs5),(173,[],Zs6),(174,[],Zs8),(175,[],Zs7)],sum:=[],nt:=42,pin:=0,nr:=true,ys:=[] }
theorem Z3g:Sound Tryz.prog 129 (Zs3) :=
 Sound.shp (C:=Zcm) (fn:=Tryz.f129) (by kernel_rfl) (c:=bodyOf Tryz.f129) (by kernel_rfl) (by decide) (ctxOK mixed tbl_ok rfl ⟨Z3k,Z3m,Z3q,Z3o,trivial⟩ trivial) (SumOK.of trivial) (by kernel_rfl) Zk5 Zo4 rfl (by decide) (by decide) rfl (by decide) rfl Z3f (fun x=>by kernel_rfl)
abbrev Zjz:Shape:={ sl:=sl_14,bl:=bl_2,ts:=[(.int .i64),(.int .i64),y39,y4,y18,y41,y19,y26,y27],pin:=0 }
abbrev Zny:Shape:={ sl:=[],bl:=bl_2,ts:=ts_11,pin:=1 }
def Z33 (x:(Int × Int × T47 × (Int × Int) × List (T17) × List T43 × List (T18) × List T29 × List (T20))):Option T57 :=
 (Z26 (x.1,x.2.2.1,x.2.2.2.1,x.2.2.2.2.1,x.2.2.2.2.2.1,x.2.2.2.2.2.2.1,x.2.2.2.2.2.2.2.1,x.2.2.2.2.2.2.2.2)).bind fun r17 =>
 (Z35 (x.1,(15:Int),r17.1.2.1,(0:Int),x.2.1,r17.2.1,r17.2.2.1,r17.2.2.2.1,r17.2.2.2.2.1,r17.2.2.2.2.2.1,r17.2.2.2.2.2.2.1,r17.2.2.2.2.2.2.2)).bind fun r18 =>
 (Z24 (x.1,r17.1.2.2,r18.2.1,r18.2.2.1,r18.2.2.2.1,r18.2.2.2.2.1,r18.2.2.2.2.2.1,r18.2.2.2.2.2.2.1,r18.2.2.2.2.2.2.2)).bind fun r19 =>
 some (r19.1,r19.2.1,r19.2.2.1,r19.2.2.2.1,r19.2.2.2.2.1,r19.2.2.2.2.2.1,r19.2.2.2.2.2.2)
abbrev Zrx:=Spec.shp Zjz Zny Z33
def Zcg:Ctx:={ tb:=mkTb T2.tbl,fx:=[(78,[],Zrh),(40,[],Zry),(41,[],Zrg)],sum:=[],nt:=21,pin:=1,nr:=true,ys:=[] }
theorem Z34:Sound Tryz.prog 130 (Zrx) :=
 Sound.shp (C:=Zcg) (fn:=Tryz.f130) (by kernel_rfl) (c:=bodyOf Tryz.f130) (by kernel_rfl) (by decide) (ctxOK mixed tbl_ok rfl ⟨Z27,Z36,Z25,trivial⟩ trivial) (SumOK.of trivial) (by kernel_rfl) Zjz Zny rfl (by decide) (by decide) rfl (by decide) rfl Z33 (fun x=>by kernel_rfl)
abbrev Zje:Shape:={ sl:=sl_26,bl:=bl_2,ts:=ts_14,pin:=0 }
abbrev Znd:Shape:={ sl:=[],bl:=bl_2,ts:=ts_11,pin:=1 }
def Z1w (x:T60):Option T57 :=
 (Z35 (x.1.1,(13:Int),x.2.1.2.1,(0:Int),(Int.negSucc 0),x.2.2.1,x.2.2.2.1,x.2.2.2.2.1,x.2.2.2.2.2.1,x.2.2.2.2.2.2.1,x.2.2.2.2.2.2.2.1,x.2.2.2.2.2.2.2.2)).bind fun r14 =>
 bif (inb x.2.1.2.1 (List.length r14.2.2.2.2.2.2.1)) then
 (Z3f ((getAt ((0:Int),(0:Int),([]:List T7)) r14.2.2.2.2.2.2.1 (toN x.2.1.2.1)),x.1.1,(0:Int),r14.1)).bind fun r15 =>
 bif (r15.2.2 != (0:Int)) then
 (Z39 (x.1.1,r14.2.1,r14.2.2.1,r14.2.2.2.1,r14.2.2.2.2.1,r14.2.2.2.2.2.1,r14.2.2.2.2.2.2.1,r14.2.2.2.2.2.2.2)).bind fun r16 =>
 some (r16.1,r16.2.1,r16.2.2.1,r16.2.2.2.1,r16.2.2.2.2.1,r16.2.2.2.2.2.1,r16.2.2.2.2.2.2)
 else
 bif (inb x.2.1.2.1 (List.length r14.2.2.2.2.2.2.1)) then
 bif (r15.2.1 == (0:Int)) then
 (Z22 (x.1.1,r14.2.1,r14.2.2.1,r14.2.2.2.1,r14.2.2.2.2.1,r14.2.2.2.2.2.1,(List.set r14.2.2.2.2.2.2.1 (toN x.2.1.2.1) r15.1),r14.2.2.2.2.2.2.2)).bind fun r16 =>
 some (r16.1,r16.2.1,r16.2.2.1,r16.2.2.2.1,r16.2.2.2.2.1,r16.2.2.2.2.2.1,r16.2.2.2.2.2.2)
 else
 bif (r15.2.1 == (1:Int)) then
 (Z39 (x.1.1,r14.2.1,r14.2.2.1,r14.2.2.2.1,r14.2.2.2.2.1,r14.2.2.2.2.2.1,(List.set r14.2.2.2.2.2.2.1 (toN x.2.1.2.1) r15.1),r14.2.2.2.2.2.2.2)).bind fun r16 =>
 some (r16.1,r16.2.1,r16.2.2.1,r16.2.2.2.1,r16.2.2.2.2.1,r16.2.2.2.2.2.1,r16.2.2.2.2.2.2)
 else
 (Z33 (x.1.1,r14.1,r14.2.1,r14.2.2.1,r14.2.2.2.1,r14.2.2.2.2.1,r14.2.2.2.2.2.1,(List.set r14.2.2.2.2.2.2.1 (toN x.2.1.2.1) r15.1),r14.2.2.2.2.2.2.2)).bind fun r16 =>
 some (r16.1,r16.2.1,r16.2.2.1,r16.2.2.2.1,r16.2.2.2.2.1,r16.2.2.2.2.2.1,r16.2.2.2.2.2.2)
 else
 none
 else
 none
abbrev Zrc:=Spec.shp Zje Znd Z1w
def Zbr:Ctx:={ tb:=mkTb T2.tbl,fx:=[(40,[],Zry),(129,[],Zs3),(125,[],Zs0),(120,[],Zrf),(130,[],Zrx)],sum:=[],nt:=67,pin:=1,nr:=true,ys:=[] }
theorem Z1x:Sound Tryz.prog 71 (Zrc) :=
 Sound.shp (C:=Zbr) (fn:=Tryz.f71) (by kernel_rfl) (c:=bodyOf Tryz.f71) (by kernel_rfl) (by decide) (ctxOK mixed tbl_ok rfl ⟨Z36,Z3g,Z3a,Z23,Z34,trivial⟩ trivial) (SumOK.of trivial) (by kernel_rfl) Zje Znd rfl (by decide) (by decide) rfl (by decide) rfl Z1w (fun x=>by kernel_rfl)
abbrev Zk6:Shape:={ sl:=[(0,(.hole y23)),(1,(.hole (.int .i64)))],bl:=[],ts:=[y23,(.int .i64)],pin:=0 }
abbrev Zo5:Shape:={ sl:=[(0,(.hole y23)),(1,(.hole (.slice y5))),(2,(.hole (.int .i64)))],bl:=[],ts:=[y23,(.slice y5),(.int .i64)],pin:=0 }
def Z3h (x:((Int × T13) × Int)):Option ((Int × T13) × List (T7) × Int) :=
 (Z3j x.1).bind fun r15 =>
 bif (Bool.not r15) then
 some (((0:Int),(0:Int),([]:List T7)),([]:List T7),(1:Int))
 else
 bif (decide (x.2 < (0:Int))) then
 some (((0:Int),(0:Int),([]:List T7)),([]:List T7),(1:Int))
 else
 bif (x.1.1 != (1:Int)) then
 some (((0:Int),(0:Int),([]:List T7)),([]:List T7),(6:Int))
 else
 bif (x.1.2.1 != x.2) then
 some (((0:Int),(0:Int),([]:List T7)),([]:List T7),(6:Int))
 else
 some (((2:Int),(0:Int),([]:List T7)),x.1.2.2,(0:Int))
abbrev Zs4:=Spec.shp Zk6 Zo5 Z3h
def Zcn:Ctx:={ tb:=mkTb T2.tbl,fx:=[(118,[],Zs5)],sum:=[],nt:=30,pin:=0,nr:=true,ys:=[] }
theorem Z3i:Sound Tryz.prog 131 (Zs4) :=
 Sound.shp (C:=Zcn) (fn:=Tryz.f131) (by kernel_rfl) (c:=bodyOf Tryz.f131) (by kernel_rfl) (by decide) (ctxOK mixed tbl_ok rfl ⟨Z3k,trivial⟩ trivial) (SumOK.of trivial) (by kernel_rfl) Zk6 Zo5 rfl (by decide) (by decide) rfl (by decide) rfl Z3h (fun x=>by kernel_rfl)
abbrev Zhf:Shape:={ sl:=[(0,(.ptr 0 [])),(52,(.hole (.slice y5))),(53,(.hole (.int .i64))),(54,(.hole (.int .i64)))],bl:=bl_2,ts:=[(.slice y5),(.int .i64),(.int .i64),y39,y4,y18,y41,y19,y26,y27],pin:=1 }
abbrev Zg5:List (ETag × Shape):=[(.exit 0,{ sl:=[],bl:=bl_2,ts:=ts_11,pin:=1 })]
def Z8j (x:(List (T7) × Int × Int × T47 × (Int × Int) × List (T17) × List T43 × List (T18) × List T29 × List (T20))):Option ((List (T7) × Int × Int × T47 × (Int × Int) × List (T17) × List T43 × List (T18) × List T29 × List (T20)) ⊕ (T57)) :=
 bif (decide (x.2.2.1 < x.2.1)) then
 bif (inb x.2.2.1 (List.length x.1)) then
 (Z33 ((getAt ((0:Int),(0:Int),(0:Int)) x.1 (toN x.2.2.1)).1,(getAt ((0:Int),(0:Int),(0:Int)) x.1 (toN x.2.2.1)).2.2,x.2.2.2.1,x.2.2.2.2.1,x.2.2.2.2.2.1,x.2.2.2.2.2.2.1,x.2.2.2.2.2.2.2.1,x.2.2.2.2.2.2.2.2.1,x.2.2.2.2.2.2.2.2.2)).bind fun r18 =>
 some (.inl (x.1,x.2.1,(IntKind.wrap .i64 (x.2.2.1+(1:Int))),r18.1,r18.2.1,r18.2.2.1,r18.2.2.2.1,r18.2.2.2.2.1,r18.2.2.2.2.2.1,r18.2.2.2.2.2.2))
 else
 none
 else
 some (.inr (x.2.2.2.1,x.2.2.2.2.1,x.2.2.2.2.2.1,x.2.2.2.2.2.2.1,x.2.2.2.2.2.2.2.1,x.2.2.2.2.2.2.2.2.1,x.2.2.2.2.2.2.2.2.2))
def Zbv:Ctx:={ tb:=mkTb T2.tbl,fx:=[(131,[],Zs4),(40,[],Zry),(120,[],Zrf),(130,[],Zrx)],sum:=[],nt:=65,pin:=1,nr:=true,ys:=[] }
theorem Z8k:CSound Tryz.prog ⟨65,1,true⟩ (.loop (loopOf 9 Tryz.f72)) (Yav Zhf Zg5 (loop Z8j)) :=
 Y8e (C:=Zbv) (ctxOK mixed tbl_ok rfl ⟨Z3i,Z36,Z23,Z34,trivial⟩ trivial) (SumOK.of trivial) Zhf Zg5 rfl rfl Z8j (fun x=>by kernel_rfl)
abbrev Zjg:Shape:={ sl:=sl_26,bl:=bl_2,ts:=ts_14,pin:=0 }
abbrev Znf:Shape:={ sl:=[],bl:=bl_2,ts:=ts_11,pin:=1 }
def Z20 (x:T60):Option T57 :=
 bif (inb x.2.1.2.1 (List.length x.2.2.2.2.2.2.2.1)) then
 (Z3h ((getAt ((0:Int),(0:Int),([]:List T7)) x.2.2.2.2.2.2.2.1 (toN x.2.1.2.1)),x.1.1)).bind fun r14 =>
 bif (r14.2.2 != (0:Int)) then
 some (x.2.2.1,(x.2.2.2.1.1,(3:Int)),x.2.2.2.2.1,x.2.2.2.2.2.1,x.2.2.2.2.2.2.1,x.2.2.2.2.2.2.2.1,x.2.2.2.2.2.2.2.2)
 else
 bif (inb x.2.1.2.1 (List.length x.2.2.2.2.2.2.2.1)) then
 (Z35 (x.1.1,(14:Int),x.2.1.2.1,(0:Int),(Int.negSucc 0),x.2.2.1,x.2.2.2.1,x.2.2.2.2.1,x.2.2.2.2.2.1,x.2.2.2.2.2.2.1,(List.set x.2.2.2.2.2.2.2.1 (toN x.2.1.2.1) r14.1),x.2.2.2.2.2.2.2.2)).bind fun r15 =>
 (Z22 (x.1.1,r15.2.1,r15.2.2.1,r15.2.2.2.1,r15.2.2.2.2.1,r15.2.2.2.2.2.1,r15.2.2.2.2.2.2.1,r15.2.2.2.2.2.2.2)).bind fun r16 =>
 (loop Z8j (r14.2.1,(((List.length r14.2.1):Nat):Int),(0:Int),r16.1,r16.2.1,r16.2.2.1,r16.2.2.2.1,r16.2.2.2.2.1,r16.2.2.2.2.2.1,r16.2.2.2.2.2.2)).bind fun r17 =>
 some (r17.1,r17.2.1,r17.2.2.1,r17.2.2.2.1,r17.2.2.2.2.1,r17.2.2.2.2.2.1,r17.2.2.2.2.2.2)
 else
 none
 else
 none
abbrev Zre:=Spec.shp Zjg Znf Z20
def Zbu:Ctx:={ tb:=mkTb T2.tbl,fx:=[(131,[],Zs4),(40,[],Zry),(120,[],Zrf),(130,[],Zrx)],sum:=[(0,9,Yav Zhf Zg5 (loop Z8j))],nt:=65,pin:=1,nr:=true,ys:=[] }
theorem Z21:Sound Tryz.prog 72 (Zre) :=
 Sound.shp (C:=Zbu) (fn:=Tryz.f72) (by kernel_rfl) (c:=bodyOf Tryz.f72) (by kernel_rfl) (by decide) (ctxOK mixed tbl_ok rfl ⟨Z3i,Z36,Z23,Z34,trivial⟩ trivial) (SumOK.of ⟨(Yax (d:=.loop (loopOf 9 Tryz.f72)) (by kernel_rfl) Z8k),trivial⟩) (by kernel_rfl) Zjg Znf rfl (by decide) (by decide) rfl (by decide) rfl Z20 (fun x=>by kernel_rfl)
abbrev Zjd:Shape:={ sl:=sl_26,bl:=bl_2,ts:=ts_14,pin:=0 }
abbrev Znc:Shape:={ sl:=[],bl:=bl_2,ts:=ts_11,pin:=1 }
def Z1u (x:T60):Option T57 :=
 bif ((((List.length x.2.2.2.2.1):Nat):Int) == (8:Int)) then
 some (x.2.2.1,(x.2.2.2.1.1,(4:Int)),x.2.2.2.2.1,x.2.2.2.2.2.1,x.2.2.2.2.2.2.1,x.2.2.2.2.2.2.2.1,x.2.2.2.2.2.2.2.2)
 else
 (Z35 (x.1.1,(1:Int),(((List.length x.2.2.2.2.1):Nat):Int),(0:Int),(Int.negSucc 0),x.2.2.1,x.2.2.2.1,x.2.2.2.2.1,x.2.2.2.2.2.1,x.2.2.2.2.2.2.1,x.2.2.2.2.2.2.2.1,x.2.2.2.2.2.2.2.2)).bind fun r14 =>
 (Z35 ((((List.length x.2.2.2.2.1):Nat):Int),(0:Int),(0:Int),(0:Int),r14.1,r14.2.1,r14.2.2.1,r14.2.2.2.1,r14.2.2.2.2.1,r14.2.2.2.2.2.1,r14.2.2.2.2.2.2.1,r14.2.2.2.2.2.2.2)).bind fun r15 =>
 bif (fits ((List.length r15.2.2.2.1)+(List.length ((x.2.1.2.1,(0:Int),(0:Int),false) :: ([]:List T17))))) then
 (Z24 ((((List.length x.2.2.2.2.1):Nat):Int),(0:Int),r15.2.1,r15.2.2.1,(r15.2.2.2.1++((x.2.1.2.1,(0:Int),(0:Int),false) :: ([]:List T17))),r15.2.2.2.2.1,r15.2.2.2.2.2.1,r15.2.2.2.2.2.2.1,r15.2.2.2.2.2.2.2)).bind fun r16 =>
 (Z22 (x.1.1,r16.1,r16.2.1,r16.2.2.1,r16.2.2.2.1,r16.2.2.2.2.1,r16.2.2.2.2.2.1,r16.2.2.2.2.2.2)).bind fun r17 =>
 some (r17.1,r17.2.1,r17.2.2.1,r17.2.2.2.1,r17.2.2.2.2.1,r17.2.2.2.2.2.1,r17.2.2.2.2.2.2)
 else
 none
abbrev Zrb:=Spec.shp Zjd Znc Z1u
def Zbq:Ctx:={ tb:=mkTb T2.tbl,fx:=[(40,[],Zry),(41,[],Zrg),(120,[],Zrf)],sum:=[],nt:=50,pin:=1,nr:=true,ys:=[] }
theorem Z1v:Sound Tryz.prog 73 (Zrb) :=
 Sound.shp (C:=Zbq) (fn:=Tryz.f73) (by kernel_rfl) (c:=bodyOf Tryz.f73) (by kernel_rfl) (by decide) (ctxOK mixed tbl_ok rfl ⟨Z36,Z25,Z23,trivial⟩ trivial) (SumOK.of trivial) (by kernel_rfl) Zjd Znc rfl (by decide) (by decide) rfl (by decide) rfl Z1u (fun x=>by kernel_rfl)
abbrev Zjr:Shape:={ sl:=sl_26,bl:=bl_2,ts:=ts_14,pin:=0 }
abbrev Znq:Shape:={ sl:=[],bl:=bl_2,ts:=ts_11,pin:=1 }
def Z2m (x:T60):Option T57 :=
 (Z35 (x.1.1,(16:Int),x.2.1.2.1,(0:Int),(Int.negSucc 0),x.2.2.1,x.2.2.2.1,x.2.2.2.2.1,x.2.2.2.2.2.1,x.2.2.2.2.2.2.1,x.2.2.2.2.2.2.2.1,x.2.2.2.2.2.2.2.2)).bind fun r14 =>
 (Z22 (x.1.1,r14.2.1,r14.2.2.1,r14.2.2.2.1,r14.2.2.2.2.1,r14.2.2.2.2.2.1,r14.2.2.2.2.2.2.1,r14.2.2.2.2.2.2.2)).bind fun r15 =>
 some (r15.1,r15.2.1,r15.2.2.1,r15.2.2.2.1,r15.2.2.2.2.1,r15.2.2.2.2.2.1,r15.2.2.2.2.2.2)
abbrev Zrp:=Spec.shp Zjr Znq Z2m
def Zc6:Ctx:={ tb:=mkTb T2.tbl,fx:=[(40,[],Zry),(120,[],Zrf)],sum:=[],nt:=16,pin:=1,nr:=true,ys:=[] }
theorem Z2n:Sound Tryz.prog 74 (Zrp) :=
 Sound.shp (C:=Zc6) (fn:=Tryz.f74) (by kernel_rfl) (c:=bodyOf Tryz.f74) (by kernel_rfl) (by decide) (ctxOK mixed tbl_ok rfl ⟨Z36,Z23,trivial⟩ trivial) (SumOK.of trivial) (by kernel_rfl) Zjr Znq rfl (by decide) (by decide) rfl (by decide) rfl Z2m (fun x=>by kernel_rfl)
abbrev Zk3:Shape:={ sl:=sl_26,bl:=bl_2,ts:=ts_14,pin:=0 }
abbrev Zo2:Shape:={ sl:=[],bl:=bl_2,ts:=ts_11,pin:=1 }
def Z3b (x:T60):Option T57 :=
 (Z35 (x.1.1,(17:Int),x.2.1.2.1,(0:Int),(Int.negSucc 0),x.2.2.1,x.2.2.2.1,x.2.2.2.2.1,x.2.2.2.2.2.1,x.2.2.2.2.2.2.1,x.2.2.2.2.2.2.2.1,x.2.2.2.2.2.2.2.2)).bind fun r14 =>
 (Z22 (x.1.1,r14.2.1,r14.2.2.1,r14.2.2.2.1,r14.2.2.2.2.1,r14.2.2.2.2.2.1,r14.2.2.2.2.2.2.1,r14.2.2.2.2.2.2.2)).bind fun r15 =>
 some (r15.1,r15.2.1,r15.2.2.1,r15.2.2.2.1,r15.2.2.2.2.1,r15.2.2.2.2.2.1,r15.2.2.2.2.2.2)
abbrev Zs1:=Spec.shp Zk3 Zo2 Z3b
def Zck:Ctx:={ tb:=mkTb T2.tbl,fx:=[(40,[],Zry),(120,[],Zrf)],sum:=[],nt:=16,pin:=1,nr:=true,ys:=[] }
theorem Z3c:Sound Tryz.prog 75 (Zs1) :=
 Sound.shp (C:=Zck) (fn:=Tryz.f75) (by kernel_rfl) (c:=bodyOf Tryz.f75) (by kernel_rfl) (by decide) (ctxOK mixed tbl_ok rfl ⟨Z36,Z23,trivial⟩ trivial) (SumOK.of trivial) (by kernel_rfl) Zk3 Zo2 rfl (by decide) (by decide) rfl (by decide) rfl Z3b (fun x=>by kernel_rfl)
abbrev Zjk:Shape:={ sl:=sl_26,bl:=bl_2,ts:=ts_14,pin:=0 }
abbrev Znj:Shape:={ sl:=[],bl:=bl_2,ts:=ts_11,pin:=1 }
def Z28 (x:T60):Option T57 :=
 (Z24 (x.1.1,x.2.1.2.1,x.2.2.1,x.2.2.2.1,x.2.2.2.2.1,x.2.2.2.2.2.1,x.2.2.2.2.2.2.1,x.2.2.2.2.2.2.2.1,x.2.2.2.2.2.2.2.2)).bind fun r14 =>
 some (r14.1,r14.2.1,r14.2.2.1,r14.2.2.2.1,r14.2.2.2.2.1,r14.2.2.2.2.2.1,r14.2.2.2.2.2.2)
abbrev Zri:=Spec.shp Zjk Znj Z28
def Zbz:Ctx:={ tb:=mkTb T2.tbl,fx:=[(41,[],Zrg)],sum:=[],nt:=12,pin:=1,nr:=true,ys:=[] }
theorem Z29:Sound Tryz.prog 76 (Zri) :=
 Sound.shp (C:=Zbz) (fn:=Tryz.f76) (by kernel_rfl) (c:=bodyOf Tryz.f76) (by kernel_rfl) (by decide) (ctxOK mixed tbl_ok rfl ⟨Z25,trivial⟩ trivial) (SumOK.of trivial) (by kernel_rfl) Zjk Znj rfl (by decide) (by decide) rfl (by decide) rfl Z28 (fun x=>by kernel_rfl)
abbrev Zjp:Shape:={ sl:=sl_26,bl:=bl_2,ts:=ts_14,pin:=0 }
abbrev Zno:Shape:={ sl:=[],bl:=bl_2,ts:=ts_11,pin:=1 }
def Z2i (x:T60):Option T57 :=
 bif (inb x.1.1 (List.length x.2.2.2.2.1)) then
 bif (getAt ((0:Int),(0:Int),(0:Int),false) x.2.2.2.2.1 (toN x.1.1)).2.2.2 then
 (Z28 (x.1,x.2.1,x.2.2.1,x.2.2.2.1,x.2.2.2.2.1,x.2.2.2.2.2.1,x.2.2.2.2.2.2.1,x.2.2.2.2.2.2.2.1,x.2.2.2.2.2.2.2.2)).bind fun r14 =>
 some (r14.1,r14.2.1,r14.2.2.1,r14.2.2.2.1,r14.2.2.2.2.1,r14.2.2.2.2.2.1,r14.2.2.2.2.2.2)
 else
 (Z22 (x.1.1,x.2.2.1,x.2.2.2.1,x.2.2.2.2.1,x.2.2.2.2.2.1,x.2.2.2.2.2.2.1,x.2.2.2.2.2.2.2.1,x.2.2.2.2.2.2.2.2)).bind fun r14 =>
 some (r14.1,r14.2.1,r14.2.2.1,r14.2.2.2.1,r14.2.2.2.2.1,r14.2.2.2.2.2.1,r14.2.2.2.2.2.2)
 else
 none
abbrev Zrn:=Spec.shp Zjp Zno Z2i
def Zc4:Ctx:={ tb:=mkTb T2.tbl,fx:=[(76,[],Zri),(120,[],Zrf)],sum:=[],nt:=24,pin:=1,nr:=true,ys:=[] }
theorem Z2j:Sound Tryz.prog 77 (Zrn) :=
 Sound.shp (C:=Zc4) (fn:=Tryz.f77) (by kernel_rfl) (c:=bodyOf Tryz.f77) (by kernel_rfl) (by decide) (ctxOK mixed tbl_ok rfl ⟨Z29,Z23,trivial⟩ trivial) (SumOK.of trivial) (by kernel_rfl) Zjp Zno rfl (by decide) (by decide) rfl (by decide) rfl Z2i (fun x=>by kernel_rfl)
abbrev Zj3:Shape:={ sl:=[(0,(.hole y45)),(1,(.hole y4))],bl:=[],ts:=[y45,y4],pin:=0 }
abbrev Zn2:Shape:={ sl:=[(0,(.hole y45)),(1,(.hole y27)),(2,(.hole (.int .i64)))],bl:=[],ts:=[y45,y27,(.int .i64)],pin:=0 }
def Z1a (x:((T47 × T61) × (Int × Int))):Option ((T47 × T61) × List (T20) × Int) :=
 (Z16 x.1).bind fun r6 =>
 (Z6v (r6,x.2)).bind fun r7 =>
 bif (Bool.not r7) then
 some (((([]:List Int),(0:Int),(0:Int),(0:Int),([]:List T21),([]:List (List T7))),([]:List T17),([]:List (Int × T41)),([]:List T22),([]:List (Int × T14)),(0:Int),(0:Int)),([]:List T20),(4:Int))
 else
 (Z67 x.1.2.1).bind fun r8 =>
 (Z65 x.1.2.2.1).bind fun r9 =>
 (Z69 x.1.2.2.2.1).bind fun r10 =>
 (Z6b x.1.2.2.2.2.1).bind fun r11 =>
 (Z26 (x.2.1,x.1.1,x.1.2.2.2.2.2,r8,r9,r10,r11,([]:List T20))).bind fun r12 =>
 bif (r12.1.1 == (((0:Nat):Nat):Int)) then
 (Z2e (x.2,r12.1,r12.2.1,r12.2.2.1,r12.2.2.2.1,r12.2.2.2.2.1,r12.2.2.2.2.2.1,r12.2.2.2.2.2.2.1,r12.2.2.2.2.2.2.2)).bind fun r13 =>
 (Z2u (r13.1,r13.2.1,r13.2.2.1,r13.2.2.2.1,r13.2.2.2.2.1,r13.2.2.2.2.2.1,r13.2.2.2.2.2.2)).bind fun r14 =>
 some ((r14.1,r14.2.2.1,r14.2.2.2.1,r14.2.2.2.2.1,r14.2.2.2.2.2.1,r14.2.1),r14.2.2.2.2.2.2,(0:Int))
 else
 bif (r12.1.1 == ((((0:Nat)+(1:Nat)):Nat):Int)) then
 (Z2s (x.2,r12.1,r12.2.1,r12.2.2.1,r12.2.2.2.1,r12.2.2.2.2.1,r12.2.2.2.2.2.1,r12.2.2.2.2.2.2.1,r12.2.2.2.2.2.2.2)).bind fun r13 =>
 (Z2u (r13.1,r13.2.1,r13.2.2.1,r13.2.2.2.1,r13.2.2.2.2.1,r13.2.2.2.2.2.1,r13.2.2.2.2.2.2)).bind fun r14 =>
 some ((r14.1,r14.2.2.1,r14.2.2.2.1,r14.2.2.2.2.1,r14.2.2.2.2.2.1,r14.2.1),r14.2.2.2.2.2.2,(0:Int))
 else
 bif (r12.1.1 == (((((0:Nat)+(1:Nat))+(1:Nat)):Nat):Int)) then
 (Z2o (x.2,r12.1,r12.2.1,r12.2.2.1,r12.2.2.2.1,r12.2.2.2.2.1,r12.2.2.2.2.2.1,r12.2.2.2.2.2.2.1,r12.2.2.2.2.2.2.2)).bind fun r13 =>
 (Z2u (r13.1,r13.2.1,r13.2.2.1,r13.2.2.2.1,r13.2.2.2.2.1,r13.2.2.2.2.2.1,r13.2.2.2.2.2.2)).bind fun r14 =>
 some ((r14.1,r14.2.2.1,r14.2.2.2.1,r14.2.2.2.2.1,r14.2.2.2.2.2.1,r14.2.1),r14.2.2.2.2.2.2,(0:Int))
 else
 bif (r12.1.1 == ((((((0:Nat)+(1:Nat))+(1:Nat))+(1:Nat)):Nat):Int)) then
 (Z31 (x.2,r12.1,r12.2.1,r12.2.2.1,r12.2.2.2.1,r12.2.2.2.2.1,r12.2.2.2.2.2.1,r12.2.2.2.2.2.2.1,r12.2.2.2.2.2.2.2)).bind fun r13 =>
 (Z2u (r13.1,r13.2.1,r13.2.2.1,r13.2.2.2.1,r13.2.2.2.2.1,r13.2.2.2.2.2.1,r13.2.2.2.2.2.2)).bind fun r14 =>
 some ((r14.1,r14.2.2.1,r14.2.2.2.1,r14.2.2.2.2.1,r14.2.2.2.2.2.1,r14.2.1),r14.2.2.2.2.2.2,(0:Int))
 else
 bif (r12.1.1 == (((((((0:Nat)+(1:Nat))+(1:Nat))+(1:Nat))+(1:Nat)):Nat):Int)) then
 (Z2q (x.2,r12.1,r12.2.1,r12.2.2.1,r12.2.2.2.1,r12.2.2.2.2.1,r12.2.2.2.2.2.1,r12.2.2.2.2.2.2.1,r12.2.2.2.2.2.2.2)).bind fun r13 =>
 (Z2u (r13.1,r13.2.1,r13.2.2.1,r13.2.2.2.1,r13.2.2.2.2.1,r13.2.2.2.2.2.1,r13.2.2.2.2.2.2)).bind fun r14 =>
 some ((r14.1,r14.2.2.1,r14.2.2.2.1,r14.2.2.2.2.1,r14.2.2.2.2.2.1,r14.2.1),r14.2.2.2.2.2.2,(0:Int))
 else
 bif (r12.1.1 == ((((((((0:Nat)+(1:Nat))+(1:Nat))+(1:Nat))+(1:Nat))+(1:Nat)):Nat):Int)) then
 (Z2a (x.2,r12.1,r12.2.1,r12.2.2.1,r12.2.2.2.1,r12.2.2.2.2.1,r12.2.2.2.2.2.1,r12.2.2.2.2.2.2.1,r12.2.2.2.2.2.2.2)).bind fun r13 =>
 (Z2u (r13.1,r13.2.1,r13.2.2.1,r13.2.2.2.1,r13.2.2.2.2.1,r13.2.2.2.2.2.1,r13.2.2.2.2.2.2)).bind fun r14 =>
 some ((r14.1,r14.2.2.1,r14.2.2.2.1,r14.2.2.2.2.1,r14.2.2.2.2.2.1,r14.2.1),r14.2.2.2.2.2.2,(0:Int))
 else
 bif (r12.1.1 == (((((((((0:Nat)+(1:Nat))+(1:Nat))+(1:Nat))+(1:Nat))+(1:Nat))+(1:Nat)):Nat):Int)) then
 (Z37 (x.2,r12.1,r12.2.1,r12.2.2.1,r12.2.2.2.1,r12.2.2.2.2.1,r12.2.2.2.2.2.1,r12.2.2.2.2.2.2.1,r12.2.2.2.2.2.2.2)).bind fun r13 =>
 (Z2u (r13.1,r13.2.1,r13.2.2.1,r13.2.2.2.1,r13.2.2.2.2.1,r13.2.2.2.2.2.1,r13.2.2.2.2.2.2)).bind fun r14 =>
 some ((r14.1,r14.2.2.1,r14.2.2.2.1,r14.2.2.2.2.1,r14.2.2.2.2.2.1,r14.2.1),r14.2.2.2.2.2.2,(0:Int))
 else
 bif (r12.1.1 == ((((((((((0:Nat)+(1:Nat))+(1:Nat))+(1:Nat))+(1:Nat))+(1:Nat))+(1:Nat))+(1:Nat)):Nat):Int)) then
 (Z1w (x.2,r12.1,r12.2.1,r12.2.2.1,r12.2.2.2.1,r12.2.2.2.2.1,r12.2.2.2.2.2.1,r12.2.2.2.2.2.2.1,r12.2.2.2.2.2.2.2)).bind fun r13 =>
 (Z2u (r13.1,r13.2.1,r13.2.2.1,r13.2.2.2.1,r13.2.2.2.2.1,r13.2.2.2.2.2.1,r13.2.2.2.2.2.2)).bind fun r14 =>
 some ((r14.1,r14.2.2.1,r14.2.2.2.1,r14.2.2.2.2.1,r14.2.2.2.2.2.1,r14.2.1),r14.2.2.2.2.2.2,(0:Int))
 else
 bif (r12.1.1 == (((((((((((0:Nat)+(1:Nat))+(1:Nat))+(1:Nat))+(1:Nat))+(1:Nat))+(1:Nat))+(1:Nat))+(1:Nat)):Nat):Int)) then
 (Z20 (x.2,r12.1,r12.2.1,r12.2.2.1,r12.2.2.2.1,r12.2.2.2.2.1,r12.2.2.2.2.2.1,r12.2.2.2.2.2.2.1,r12.2.2.2.2.2.2.2)).bind fun r13 =>
 (Z2u (r13.1,r13.2.1,r13.2.2.1,r13.2.2.2.1,r13.2.2.2.2.1,r13.2.2.2.2.2.1,r13.2.2.2.2.2.2)).bind fun r14 =>
 some ((r14.1,r14.2.2.1,r14.2.2.2.1,r14.2.2.2.2.1,r14.2.2.2.2.2.1,r14.2.1),r14.2.2.2.2.2.2,(0:Int))
 else
 bif (r12.1.1 == ((((((((((((0:Nat)+(1:Nat))+(1:Nat))+(1:Nat))+(1:Nat))+(1:Nat))+(1:Nat))+(1:Nat))+(1:Nat))+(1:Nat)):Nat):Int)) then
 (Z1u (x.2,r12.1,r12.2.1,r12.2.2.1,r12.2.2.2.1,r12.2.2.2.2.1,r12.2.2.2.2.2.1,r12.2.2.2.2.2.2.1,r12.2.2.2.2.2.2.2)).bind fun r13 =>
 (Z2u (r13.1,r13.2.1,r13.2.2.1,r13.2.2.2.1,r13.2.2.2.2.1,r13.2.2.2.2.2.1,r13.2.2.2.2.2.2)).bind fun r14 =>
 some ((r14.1,r14.2.2.1,r14.2.2.2.1,r14.2.2.2.2.1,r14.2.2.2.2.2.1,r14.2.1),r14.2.2.2.2.2.2,(0:Int))
 else
 bif (r12.1.1 == (((((((((((((0:Nat)+(1:Nat))+(1:Nat))+(1:Nat))+(1:Nat))+(1:Nat))+(1:Nat))+(1:Nat))+(1:Nat))+(1:Nat))+(1:Nat)):Nat):Int)) then
 (Z2m (x.2,r12.1,r12.2.1,r12.2.2.1,r12.2.2.2.1,r12.2.2.2.2.1,r12.2.2.2.2.2.1,r12.2.2.2.2.2.2.1,r12.2.2.2.2.2.2.2)).bind fun r13 =>
 (Z2u (r13.1,r13.2.1,r13.2.2.1,r13.2.2.2.1,r13.2.2.2.2.1,r13.2.2.2.2.2.1,r13.2.2.2.2.2.2)).bind fun r14 =>
 some ((r14.1,r14.2.2.1,r14.2.2.2.1,r14.2.2.2.2.1,r14.2.2.2.2.2.1,r14.2.1),r14.2.2.2.2.2.2,(0:Int))
 else
 bif (r12.1.1 == ((((((((((((((0:Nat)+(1:Nat))+(1:Nat))+(1:Nat))+(1:Nat))+(1:Nat))+(1:Nat))+(1:Nat))+(1:Nat))+(1:Nat))+(1:Nat))+(1:Nat)):Nat):Int)) then
 (Z3b (x.2,r12.1,r12.2.1,r12.2.2.1,r12.2.2.2.1,r12.2.2.2.2.1,r12.2.2.2.2.2.1,r12.2.2.2.2.2.2.1,r12.2.2.2.2.2.2.2)).bind fun r13 =>
 (Z2u (r13.1,r13.2.1,r13.2.2.1,r13.2.2.2.1,r13.2.2.2.2.1,r13.2.2.2.2.2.1,r13.2.2.2.2.2.2)).bind fun r14 =>
 some ((r14.1,r14.2.2.1,r14.2.2.2.1,r14.2.2.2.2.1,r14.2.2.2.2.2.1,r14.2.1),r14.2.2.2.2.2.2,(0:Int))
 else
 bif (r12.1.1 == (((((((((((((((0:Nat)+(1:Nat))+(1:Nat))+(1:Nat))+(1:Nat))+(1:Nat))+(1:Nat))+(1:Nat))+(1:Nat))+(1:Nat))+(1:Nat))+(1:Nat))+(1:Nat)):Nat):Int)) then
 (Z28 (x.2,r12.1,r12.2.1,r12.2.2.1,r12.2.2.2.1,r12.2.2.2.2.1,r12.2.2.2.2.2.1,r12.2.2.2.2.2.2.1,r12.2.2.2.2.2.2.2)).bind fun r13 =>
 (Z2u (r13.1,r13.2.1,r13.2.2.1,r13.2.2.2.1,r13.2.2.2.2.1,r13.2.2.2.2.2.1,r13.2.2.2.2.2.2)).bind fun r14 =>
 some ((r14.1,r14.2.2.1,r14.2.2.2.1,r14.2.2.2.2.1,r14.2.2.2.2.2.1,r14.2.1),r14.2.2.2.2.2.2,(0:Int))
 else
 bif (r12.1.1 == ((((((((((((((((0:Nat)+(1:Nat))+(1:Nat))+(1:Nat))+(1:Nat))+(1:Nat))+(1:Nat))+(1:Nat))+(1:Nat))+(1:Nat))+(1:Nat))+(1:Nat))+(1:Nat))+(1:Nat)):Nat):Int)) then
 (Z2i (x.2,r12.1,r12.2.1,r12.2.2.1,r12.2.2.2.1,r12.2.2.2.2.1,r12.2.2.2.2.2.1,r12.2.2.2.2.2.2.1,r12.2.2.2.2.2.2.2)).bind fun r13 =>
 (Z2u (r13.1,r13.2.1,r13.2.2.1,r13.2.2.2.1,r13.2.2.2.2.1,r13.2.2.2.2.2.1,r13.2.2.2.2.2.2)).bind fun r14 =>
 some ((r14.1,r14.2.2.1,r14.2.2.2.1,r14.2.2.2.2.1,r14.2.2.2.2.2.1,r14.2.1),r14.2.2.2.2.2.2,(0:Int))
 else
 none
abbrev Zr1:=Spec.shp Zj3 Zn2 Z1a
def Zbc:Ctx:={ tb:=mkTb T2.tbl,fx:=[(22,[],Zqz),(59,[],Zts),(60,[],Ztg),(61,[],Ztf),(62,[],Zth),(63,[],Zti),(78,[],Zrh),(64,[],Zrl),(42,[],Zrt),(65,[],Zrs),(66,[],Zrq),(67,[],Zrw),(68,[],Zrr),(69,[],Zrj),(70,[],Zrz),(71,[],Zrc),(72,[],Zre),(73,[],Zrb),(74,[],Zrp),(75,[],Zs1),(76,[],Zri),(77,[],Zrn)],sum:=[],nt:=70,pin:=0,nr:=true,ys:=[] }
theorem Z1b:Sound Tryz.prog 23 (Zr1) :=
 Sound.shp (C:=Zbc) (fn:=Tryz.f23) (by kernel_rfl) (c:=bodyOf Tryz.f23) (by kernel_rfl) (by decide) (ctxOK mixed tbl_ok rfl ⟨Z17,Z6w,Z68,Z66,Z6a,Z6c,Z27,Z2f,Z30,Z2t,Z2p,Z32,Z2r,Z2b,Z38,Z1x,Z21,Z1v,Z2n,Z3c,Z29,Z2j,trivial⟩ trivial) (SumOK.of trivial) (by kernel_rfl) Zj3 Zn2 rfl (by decide) (by decide) rfl (by decide) rfl Z1a (fun x=>by kernel_rfl)
abbrev Zkd:Shape:={ sl:=[],bl:=[],ts:=[],pin:=0 }
abbrev Zoc:Shape:={ sl:=sl_6,bl:=[],ts:=[y39],pin:=0 }
def Z3v (x:Unit):Option (T47) :=
 some (((0:Int) :: ([]:List Int)),(0:Int),(0:Int),(0:Int),([]:List T21),((((9:Int),(1:Int),(0:Int)) :: (((2:Int),(0:Int),(0:Int)) :: ([]:List T7))) :: ((((1:Int),(0:Int),(0:Int)) :: ([]:List T7)) :: ([]:List (List T7)))))
abbrev Zsb:=Spec.shp Zkd Zoc Z3v
def Zd1:Ctx:={ tb:=mkTb T2.tbl,fx:=[],sum:=[],nt:=9,pin:=0,nr:=true,ys:=[] }
theorem Z3w:Sound Tryz.prog 44 (Zsb) :=
 Sound.shp (C:=Zd1) (fn:=Tryz.f44) (by kernel_rfl) (c:=bodyOf Tryz.f44) (by kernel_rfl) (by decide) (ctxOK mixed tbl_ok rfl trivial trivial) (SumOK.of trivial) (by kernel_rfl) Zkd Zoc rfl (by decide) (by decide) rfl (by decide) rfl Z3v (fun x=>by kernel_rfl)
abbrev Zhl:Shape:={ sl:=[(1,(.ptr 0 [])),(2,(.hole y27)),(3,(.hole (.int .i64))),(4,(.sl 1)),(19,(.sl 2)),(20,(.hole (.int .i64))),(21,(.hole (.int .i64)))],bl:=[.var (.hole y45),.row (.int .i64),.row (.int .i64)],ts:=[y27,(.int .i64),(.int .i64),(.int .i64),y45,y0,y0],pin:=0 }
abbrev Zgb:List (ETag × Shape):=[(.ret,{ sl:=sl_1,bl:=[],ts:=ts_1,pin:=0 }),(.exit 0,{ sl:=[(1,(.ptr 0 [])),(2,(.hole y27)),(3,(.hole (.int .i64))),(4,(.sl 1))],bl:=[.var (.hole y45),.row (.int .i64)],ts:=[y27,(.int .i64),y45,y0],pin:=0 })]
def Z8v (x:(List (T20) × Int × Int × Int × (T47 × T61) × List Int × List Int)):Option ((List (T20) × Int × Int × Int × (T47 × T61) × List Int × List Int) ⊕ ((Bool) ⊕ (List (T20) × Int × (T47 × T61) × List Int))) :=
 bif (decide (x.2.2.2.1 < x.2.2.1)) then
 bif (inb x.2.2.2.1 (List.length x.2.2.2.2.2.2)) then
 (Z1a (x.2.2.2.2.1,(getAt (0:Int) x.2.2.2.2.2.2 (toN x.2.2.2.1)),(Int.negSucc 0))).bind fun r10 =>
 bif (r10.2.2 != (0:Int)) then
 some (.inr (.inl false))
 else
 bif (fits ((List.length ([]:List T20))+(List.length x.1))) then
 bif (fits ((List.length (([]:List T20)++x.1))+(List.length r10.2.1))) then
 some (.inl (((([]:List T20)++x.1)++r10.2.1),x.2.1,x.2.2.1,(IntKind.wrap .i64 (x.2.2.2.1+(1:Int))),r10.1,x.2.2.2.2.2.1,x.2.2.2.2.2.2))
 else
 none
 else
 none
 else
 none
 else
 some (.inr (.inr (x.1,x.2.1,x.2.2.2.2.1,x.2.2.2.2.2.1)))
def Zcx:Ctx:={ tb:=mkTb T2.tbl,fx:=[(44,[],Zsb),(14,[],Zr0),(23,[],Zr1)],sum:=[],nt:=71,pin:=0,nr:=true,ys:=[] }
theorem Z8w:CSound Tryz.prog ⟨71,0,true⟩ (.loop (loopOf 5 Tryz.f16)) (Yav Zhl Zgb (loop Z8v)) :=
 Y8e (C:=Zcx) (ctxOK mixed tbl_ok rfl ⟨Z3w,Z19,Z1b,trivial⟩ trivial) (SumOK.of trivial) Zhl Zgb rfl rfl Z8v (fun x=>by kernel_rfl)
abbrev Zhk:Shape:={ sl:=[(4,(.sl 0)),(56,(.hole y27)),(57,(.hole (.int .i64))),(58,(.hole (.int .i64)))],bl:=bl_14,ts:=[y27,(.int .i64),(.int .i64),y0],pin:=0 }
abbrev Zga:List (ETag × Shape):=[(.ret,{ sl:=sl_1,bl:=[],ts:=ts_1,pin:=0 }),(.exit 2,{ sl:=[],bl:=[],ts:=[],pin:=0 })]
def Z8t (x:(List (T20) × Int × Int × List Int)):Option ((List (T20) × Int × Int × List Int) ⊕ ((Bool) ⊕ Unit)) :=
 bif (decide (x.2.2.1 < x.2.1)) then
 bif (inb x.2.2.1 (List.length x.1)) then
 bif (inb x.2.2.1 (List.length x.2.2.2)) then
 bif ((getAt ((0:Int),(0:Int),(0:Int),(0:Int),(0:Int)) x.1 (toN x.2.2.1)).2.1 != (getAt (0:Int) x.2.2.2 (toN x.2.2.1))) then
 some (.inr (.inl false))
 else
 some (.inl (x.1,x.2.1,(IntKind.wrap .i64 (x.2.2.1+(1:Int))),x.2.2.2))
 else
 none
 else
 none
 else
 some (.inr (.inr ()))
def Zcw:Ctx:={ tb:=mkTb T2.tbl,fx:=[(44,[],Zsb),(14,[],Zr0),(23,[],Zr1)],sum:=[(0,5,Yav Zhl Zgb (loop Z8v))],nt:=71,pin:=0,nr:=true,ys:=[] }
theorem Z8u:CSound Tryz.prog ⟨71,0,true⟩ (.loop (loopOf 15 Tryz.f16)) (Yav Zhk Zga (loop Z8t)) :=
 Y8e (C:=Zcw) (ctxOK mixed tbl_ok rfl ⟨Z3w,Z19,Z1b,trivial⟩ trivial) (SumOK.of ⟨(Yaw (by kernel_rfl)),trivial⟩) Zhk Zga rfl rfl Z8t (fun x=>by kernel_rfl)
abbrev Zkb:Shape:={ sl:=[],bl:=[],ts:=[],pin:=0 }
abbrev Zoa:Shape:={ sl:=sl_1,bl:=[],ts:=ts_1,pin:=0 }
def Z3r (x:Unit):Option (Bool) :=
 (Z3v ()).bind fun r7 =>
 (Z18 r7).bind fun r8 =>
 (loop Z8v (r8.2.1,r8.2.2,(((List.length ((0:Int) :: ((0:Int) :: ((1:Int) :: ([]:List Int))))):Nat):Int),(0:Int),r8.1,((0:Int) :: ((1:Int) :: ((0:Int) :: ((4:Int) :: ((2:Int) :: ((5:Int) :: ((3:Int) :: ([]:List Int)))))))),((0:Int) :: ((0:Int) :: ((1:Int) :: ([]:List Int)))))).bind fun r9 =>
 match r9 with
 | .inl y10 =>
 some y10
 | .inr y10 =>
 bif (y10.2.1 != (0:Int)) then
 some false
 else
 bif ((((List.length y10.1):Nat):Int) != (((List.length y10.2.2.2):Nat):Int)) then
 some false
 else
 bif (y10.2.2.1.2.2.2.2.2.2 != (1:Int)) then
 some false
 else
 (loop Z8t (y10.1,(((List.length y10.1):Nat):Int),(0:Int),y10.2.2.2)).bind fun r11 =>
 match r11 with
 | .inl y12 =>
 some y12
 | .inr y12 =>
 some true
abbrev Zs9:=Spec.shp Zkb Zoa Z3r
def Zcv:Ctx:={ tb:=mkTb T2.tbl,fx:=[(44,[],Zsb),(14,[],Zr0),(23,[],Zr1)],sum:=[(0,5,Yav Zhl Zgb (loop Z8v)),(0,15,Yav Zhk Zga (loop Z8t))],nt:=71,pin:=0,nr:=true,ys:=[] }
theorem Z3s:Sound Tryz.prog 16 (Zs9) :=
 Sound.shp (C:=Zcv) (fn:=Tryz.f16) (by kernel_rfl) (c:=bodyOf Tryz.f16) (by kernel_rfl) (by decide) (ctxOK mixed tbl_ok rfl ⟨Z3w,Z19,Z1b,trivial⟩ trivial) (SumOK.of ⟨(Yax (d:=.loop (loopOf 5 Tryz.f16)) (by kernel_rfl) Z8w),(Yax (d:=.loop (loopOf 15 Tryz.f16)) (by kernel_rfl) Z8u),trivial⟩) (by kernel_rfl) Zkb Zoa rfl (by decide) (by decide) rfl (by decide) rfl Z3r (fun x=>by kernel_rfl)
abbrev Zhn:Shape:={ sl:=sl_32,bl:=bl_18,ts:=ts_16,pin:=0 }
abbrev Zgd:List (ETag × Shape):=[(.exit 0,{ sl:=[(1,(.ptr 0 [])),(2,(.ptr 1 [])),(3,(.sl 2))],bl:=bl_18,ts:=[y39,(.int .i64),(.int .i64),(.int .i64),(.slice y9)],pin:=0 })]
def Z8z (x:T55):Option (T55 ⊕ (T47 × Int × Int × Int × List (T12))) :=
 bif (decide (x.2.2.1 < x.2.1)) then
 bif (inb x.2.2.1 (List.length x.1)) then
 bif (sub3 (0:Int) (Min.min (((List.length (getAt (([]:List T0),false) x.1 (toN x.2.2.1)).1):Nat):Int) (6:Int)) (List.length (getAt (([]:List T0),false) x.1 (toN x.2.2.1)).1)) then
 bif (fits ((List.length x.2.2.2.2.2.2.2)+(List.length (((cut (getAt (([]:List T0),false) x.1 (toN x.2.2.1)).1 (toN (0:Int)) ((toN (Min.min (((List.length (getAt (([]:List T0),false) x.1 (toN x.2.2.1)).1):Nat):Int) (6:Int))) - (toN (0:Int)))),(getAt (([]:List T0),false) x.1 (toN x.2.2.1)).2) :: ([]:List T21))))) then
 some (.inl (x.1,x.2.1,(IntKind.wrap .i64 (x.2.2.1+(1:Int))),x.2.2.2.1,x.2.2.2.2.1,x.2.2.2.2.2.1,x.2.2.2.2.2.2.1,(x.2.2.2.2.2.2.2++(((cut (getAt (([]:List T0),false) x.1 (toN x.2.2.1)).1 (toN (0:Int)) ((toN (Min.min (((List.length (getAt (([]:List T0),false) x.1 (toN x.2.2.1)).1):Nat):Int) (6:Int))) - (toN (0:Int)))),(getAt (([]:List T0),false) x.1 (toN x.2.2.1)).2) :: ([]:List T21)))))
 else
 none
 else
 none
 else
 none
 else
 some (.inr (x.2.2.2.1,x.2.2.2.2.1,x.2.2.2.2.2.1,x.2.2.2.2.2.2.1,x.2.2.2.2.2.2.2))
def Zd0:Ctx:={ tb:=mkTb T2.tbl,fx:=[],sum:=[],nt:=68,pin:=0,nr:=true,ys:=[] }
theorem Z90:CSound Tryz.prog ⟨68,0,true⟩ (.loop (loopOf 5 Tryz.f13)) (Yav Zhn Zgd (loop Z8z)) :=
 Y8e (C:=Zd0) (ctxOK mixed tbl_ok rfl trivial trivial) (SumOK.of trivial) Zhn Zgd rfl rfl Z8z (fun x=>by kernel_rfl)
abbrev Zhm:Shape:={ sl:=sl_33,bl:=bl_19,ts:=ts_17,pin:=0 }
abbrev Zgc:List (ETag × Shape):=[(.exit 2,{ sl:=[(1,(.ptr 0 [])),(2,(.ptr 1 [])),(3,(.sl 2)),(6,(.sl 3))],bl:=bl_19,ts:=[y39,(.int .i64),(.int .i64),(.int .i64),(.slice y9),y10],pin:=0 })]
def Z8x (x:T59):Option (T59 ⊕ (T47 × Int × Int × Int × List (T12) × List (List (T7)))) :=
 bif (decide (x.2.2.1 < x.2.1)) then
 bif (inb x.2.2.1 (List.length x.1)) then
 bif (sub3 (0:Int) (Min.min (((List.length (getAt ([]:List T7) x.1 (toN x.2.2.1))):Nat):Int) (30:Int)) (List.length (getAt ([]:List T7) x.1 (toN x.2.2.1)))) then
 bif (fits ((List.length x.2.2.2.2.2.2.2.2)+(List.length ((cut (getAt ([]:List T7) x.1 (toN x.2.2.1)) (toN (0:Int)) ((toN (Min.min (((List.length (getAt ([]:List T7) x.1 (toN x.2.2.1))):Nat):Int) (30:Int))) - (toN (0:Int)))) :: ([]:List (List T7)))))) then
 some (.inl (x.1,x.2.1,(IntKind.wrap .i64 (x.2.2.1+(1:Int))),x.2.2.2.1,x.2.2.2.2.1,x.2.2.2.2.2.1,x.2.2.2.2.2.2.1,x.2.2.2.2.2.2.2.1,(x.2.2.2.2.2.2.2.2++((cut (getAt ([]:List T7) x.1 (toN x.2.2.1)) (toN (0:Int)) ((toN (Min.min (((List.length (getAt ([]:List T7) x.1 (toN x.2.2.1))):Nat):Int) (30:Int))) - (toN (0:Int)))) :: ([]:List (List T7))))))
 else
 none
 else
 none
 else
 none
 else
 some (.inr (x.2.2.2.1,x.2.2.2.2.1,x.2.2.2.2.2.1,x.2.2.2.2.2.2.1,x.2.2.2.2.2.2.2.1,x.2.2.2.2.2.2.2.2))
def Zcz:Ctx:={ tb:=mkTb T2.tbl,fx:=[],sum:=[(0,5,Yav Zhn Zgd (loop Z8z))],nt:=68,pin:=0,nr:=true,ys:=[] }
theorem Z8y:CSound Tryz.prog ⟨68,0,true⟩ (.loop (loopOf 12 Tryz.f13)) (Yav Zhm Zgc (loop Z8x)) :=
 Y8e (C:=Zcz) (ctxOK mixed tbl_ok rfl trivial trivial) (SumOK.of ⟨(Yaw (by kernel_rfl)),trivial⟩) Zhm Zgc rfl rfl Z8x (fun x=>by kernel_rfl)
abbrev Zkc:Shape:={ sl:=sl_6,bl:=[],ts:=[y39],pin:=0 }
abbrev Zob:Shape:={ sl:=sl_6,bl:=[],ts:=[y39],pin:=0 }
def Z3t (x:(T47)):Option (T47) :=
 bif (sub3 (0:Int) (Min.min (((List.length x.1):Nat):Int) (6:Int)) (List.length x.1)) then
 bif (sub3 (0:Int) (Min.min (((List.length x.2.2.2.2.1):Nat):Int) (6:Int)) (List.length x.2.2.2.2.1)) then
 (loop Z8z ((cut x.2.2.2.2.1 (toN (0:Int)) ((toN (Min.min (((List.length x.2.2.2.2.1):Nat):Int) (6:Int))) - (toN (0:Int)))),(((List.length (cut x.2.2.2.2.1 (toN (0:Int)) ((toN (Min.min (((List.length x.2.2.2.2.1):Nat):Int) (6:Int))) - (toN (0:Int))))):Nat):Int),(0:Int),((cut x.1 (toN (0:Int)) ((toN (Min.min (((List.length x.1):Nat):Int) (6:Int))) - (toN (0:Int)))),x.2),(0:Int),(0:Int),(0:Int),([]:List T21))).bind fun r2 =>
 bif (sub3 (0:Int) (Min.min (((List.length r2.1.2.2.2.2.2):Nat):Int) (8:Int)) (List.length r2.1.2.2.2.2.2)) then
 (loop Z8x ((cut r2.1.2.2.2.2.2 (toN (0:Int)) ((toN (Min.min (((List.length r2.1.2.2.2.2.2):Nat):Int) (8:Int))) - (toN (0:Int)))),(((List.length (cut r2.1.2.2.2.2.2 (toN (0:Int)) ((toN (Min.min (((List.length r2.1.2.2.2.2.2):Nat):Int) (8:Int))) - (toN (0:Int))))):Nat):Int),(0:Int),r2.1,r2.2.1,r2.2.2.1,r2.2.2.2.1,r2.2.2.2.2,([]:List (List T7)))).bind fun r3 =>
 some (r3.1.1,r3.1.2.1,r3.1.2.2.1,r3.1.2.2.2.1,r3.2.2.2.2.1,r3.2.2.2.2.2)
 else
 none
 else
 none
 else
 none
abbrev Zsa:=Spec.shp Zkc Zob Z3t
def Zcy:Ctx:={ tb:=mkTb T2.tbl,fx:=[],sum:=[(0,5,Yav Zhn Zgd (loop Z8z)),(0,12,Yav Zhm Zgc (loop Z8x))],nt:=68,pin:=0,nr:=true,ys:=[] }
theorem Z3u:Sound Tryz.prog 13 (Zsa) :=
 Sound.shp (C:=Zcy) (fn:=Tryz.f13) (by kernel_rfl) (c:=bodyOf Tryz.f13) (by kernel_rfl) (by decide) (ctxOK mixed tbl_ok rfl trivial trivial) (SumOK.of ⟨(Yax (d:=.loop (loopOf 5 Tryz.f13)) (by kernel_rfl) Z90),(Yax (d:=.loop (loopOf 12 Tryz.f13)) (by kernel_rfl) Z8y),trivial⟩) (by kernel_rfl) Zkc Zob rfl (by decide) (by decide) rfl (by decide) rfl Z3t (fun x=>by kernel_rfl)
abbrev Zi0:Shape:={ sl:=[(0,(.hole y18)),(1,(.hole y18)),(12,(.hole (.int .i64))),(13,(.hole (.int .i64)))],bl:=[],ts:=[y18,y18,(.int .i64),(.int .i64)],pin:=0 }
abbrev Zgq:List (ETag × Shape):=[(.ret,{ sl:=sl_35,bl:=[],ts:=ts_1,pin:=0 }),(.exit 0,{ sl:=[],bl:=[],ts:=[],pin:=0 })]
def Z9p (x:(List (T17) × List (T17) × Int × Int)):Option ((List (T17) × List (T17) × Int × Int) ⊕ ((Bool) ⊕ Unit)) :=
 bif (decide (x.2.2.2 < x.2.2.1)) then
 bif (inb x.2.2.2 (List.length x.1)) then
 bif (inb x.2.2.2 (List.length x.2.1)) then
 bif (Bool.not (((getAt ((0:Int),(0:Int),(0:Int),false) x.1 (toN x.2.2.2)).1 == (getAt ((0:Int),(0:Int),(0:Int),false) x.2.1 (toN x.2.2.2)).1) && (((getAt ((0:Int),(0:Int),(0:Int),false) x.1 (toN x.2.2.2)).2.1 == (getAt ((0:Int),(0:Int),(0:Int),false) x.2.1 (toN x.2.2.2)).2.1) && (((getAt ((0:Int),(0:Int),(0:Int),false) x.1 (toN x.2.2.2)).2.2.1 == (getAt ((0:Int),(0:Int),(0:Int),false) x.2.1 (toN x.2.2.2)).2.2.1) && ((getAt ((0:Int),(0:Int),(0:Int),false) x.1 (toN x.2.2.2)).2.2.2 == (getAt ((0:Int),(0:Int),(0:Int),false) x.2.1 (toN x.2.2.2)).2.2.2))))) then
 some (.inr (.inl false))
 else
 some (.inl (x.1,x.2.1,x.2.2.1,(IntKind.wrap .i64 (x.2.2.2+(1:Int)))))
 else
 none
 else
 none
 else
 some (.inr (.inr ()))
def Zds:Ctx:={ tb:=mkTb T2.tbl,fx:=[],sum:=[],nt:=26,pin:=0,nr:=true,ys:=[] }
theorem Z9q:CSound Tryz.prog ⟨26,0,true⟩ (.loop (loopOf 5 Tryz.f45)) (Yav Zi0 Zgq (loop Z9p)) :=
 Y8e (C:=Zds) (ctxOK mixed tbl_ok rfl trivial trivial) (SumOK.of trivial) Zi0 Zgq rfl rfl Z9p (fun x=>by kernel_rfl)
abbrev Zkr:Shape:={ sl:=[(0,(.hole y18)),(1,(.hole y18))],bl:=[],ts:=[y18,y18],pin:=0 }
abbrev Zoq:Shape:={ sl:=sl_1,bl:=[],ts:=ts_1,pin:=0 }
def Z4n (x:(List (T17) × List (T17))):Option (Bool) :=
 bif ((((List.length x.1):Nat):Int) != (((List.length x.2):Nat):Int)) then
 some false
 else
 (loop Z9p (x.1,x.2,(((List.length x.1):Nat):Int),(0:Int))).bind fun r7 =>
 match r7 with
 | .inl y8 =>
 some y8
 | .inr y8 =>
 some true
abbrev Zsp:=Spec.shp Zkr Zoq Z4n
def Zdr:Ctx:={ tb:=mkTb T2.tbl,fx:=[],sum:=[(0,5,Yav Zi0 Zgq (loop Z9p))],nt:=26,pin:=0,nr:=true,ys:=[] }
theorem Z4o:Sound Tryz.prog 45 (Zsp) :=
 Sound.shp (C:=Zdr) (fn:=Tryz.f45) (by kernel_rfl) (c:=bodyOf Tryz.f45) (by kernel_rfl) (by decide) (ctxOK mixed tbl_ok rfl trivial trivial) (SumOK.of ⟨(Yax (d:=.loop (loopOf 5 Tryz.f45)) (by kernel_rfl) Z9q),trivial⟩) (by kernel_rfl) Zkr Zoq rfl (by decide) (by decide) rfl (by decide) rfl Z4n (fun x=>by kernel_rfl)
abbrev Zhu:Shape:={ sl:=[(0,(.hole (.slice y9))),(1,(.hole (.slice y9))),(5,(.hole (.int .i64))),(13,(.hole (.int .i64))),(14,(.hole (.int .i64))),(48,(.hole (.int .i64))),(49,(.hole (.int .i64)))],bl:=[],ts:=[(.slice y9),(.slice y9),(.int .i64),(.int .i64),(.int .i64),(.int .i64),(.int .i64)],pin:=0 }
abbrev Zgk:List (ETag × Shape):=[(.ret,{ sl:=sl_35,bl:=[],ts:=ts_1,pin:=0 }),(.exit 2,{ sl:=sl_36,bl:=[],ts:=[(.slice y9),(.slice y9),(.int .i64),(.int .i64)],pin:=0 })]
def Z9d (x:(List (T12) × List (T12) × Int × Int × Int × Int × Int)):Option ((List (T12) × List (T12) × Int × Int × Int × Int × Int) ⊕ ((Bool) ⊕ (List (T12) × List (T12) × Int × Int))) :=
 bif (decide (x.2.2.2.2.2.2 < x.2.2.2.2.2.1)) then
 bif (inb x.2.2.1 (List.length x.1)) then
 bif (inb x.2.2.2.2.2.2 (List.length (getAt (([]:List T0),false) x.1 (toN x.2.2.1)).1)) then
 bif (inb x.2.2.1 (List.length x.2.1)) then
 bif (inb x.2.2.2.2.2.2 (List.length (getAt (([]:List T0),false) x.2.1 (toN x.2.2.1)).1)) then
 bif (Bool.not (((getAt (false,(0:Int)) (getAt (([]:List T0),false) x.1 (toN x.2.2.1)).1 (toN x.2.2.2.2.2.2)).1 == (getAt (false,(0:Int)) (getAt (([]:List T0),false) x.2.1 (toN x.2.2.1)).1 (toN x.2.2.2.2.2.2)).1) && ((getAt (false,(0:Int)) (getAt (([]:List T0),false) x.1 (toN x.2.2.1)).1 (toN x.2.2.2.2.2.2)).2 == (getAt (false,(0:Int)) (getAt (([]:List T0),false) x.2.1 (toN x.2.2.1)).1 (toN x.2.2.2.2.2.2)).2))) then
 some (.inr (.inl false))
 else
 some (.inl (x.1,x.2.1,x.2.2.1,x.2.2.2.1,x.2.2.2.2.1,x.2.2.2.2.2.1,(IntKind.wrap .i64 (x.2.2.2.2.2.2+(1:Int)))))
 else
 none
 else
 none
 else
 none
 else
 none
 else
 some (.inr (.inr (x.1,x.2.1,x.2.2.2.1,x.2.2.2.2.1)))
def Zdg:Ctx:={ tb:=mkTb T2.tbl,fx:=[],sum:=[],nt:=71,pin:=0,nr:=true,ys:=[] }
theorem Z9e:CSound Tryz.prog ⟨71,0,true⟩ (.loop (loopOf 10 Tryz.f99)) (Yav Zhu Zgk (loop Z9d)) :=
 Y8e (C:=Zdg) (ctxOK mixed tbl_ok rfl trivial trivial) (SumOK.of trivial) Zhu Zgk rfl rfl Z9d (fun x=>by kernel_rfl)
abbrev Zhv:Shape:={ sl:=sl_36,bl:=[],ts:=[(.slice y9),(.slice y9),(.int .i64),(.int .i64)],pin:=0 }
abbrev Zgl:List (ETag × Shape):=[(.ret,{ sl:=sl_35,bl:=[],ts:=ts_1,pin:=0 }),(.exit 0,{ sl:=[],bl:=[],ts:=[],pin:=0 })]
def Z9f (x:(List (T12) × List (T12) × Int × Int)):Option ((List (T12) × List (T12) × Int × Int) ⊕ ((Bool) ⊕ Unit)) :=
 bif (decide (x.2.2.2 < x.2.2.1)) then
 bif (inb x.2.2.2 (List.length x.1)) then
 bif (inb x.2.2.2 (List.length x.2.1)) then
 bif (Bool.not ((getAt (([]:List T0),false) x.1 (toN x.2.2.2)).2 == (getAt (([]:List T0),false) x.2.1 (toN x.2.2.2)).2)) then
 some (.inr (.inl false))
 else
 bif (inb x.2.2.2 (List.length x.1)) then
 bif (inb x.2.2.2 (List.length x.2.1)) then
 bif ((((List.length (getAt (([]:List T0),false) x.1 (toN x.2.2.2)).1):Nat):Int) != (((List.length (getAt (([]:List T0),false) x.2.1 (toN x.2.2.2)).1):Nat):Int)) then
 some (.inr (.inl false))
 else
 bif (inb x.2.2.2 (List.length x.1)) then
 (loop Z9d (x.1,x.2.1,x.2.2.2,x.2.2.1,x.2.2.2,(((List.length (getAt (([]:List T0),false) x.1 (toN x.2.2.2)).1):Nat):Int),(0:Int))).bind fun r10 =>
 match r10 with
 | .inl y11 =>
 some (.inr (.inl y11))
 | .inr y11 =>
 some (.inl (y11.1,y11.2.1,y11.2.2.1,(IntKind.wrap .i64 (y11.2.2.2+(1:Int)))))
 else
 none
 else
 none
 else
 none
 else
 none
 else
 none
 else
 some (.inr (.inr ()))
def Zdh:Ctx:={ tb:=mkTb T2.tbl,fx:=[],sum:=[(0,10,Yav Zhu Zgk (loop Z9d))],nt:=71,pin:=0,nr:=true,ys:=[] }
theorem Z9g:CSound Tryz.prog ⟨71,0,true⟩ (.loop (loopOf 5 Tryz.f99)) (Yav Zhv Zgl (loop Z9f)) :=
 Y8e (C:=Zdh) (ctxOK mixed tbl_ok rfl trivial trivial) (SumOK.of ⟨(Yax (d:=.loop (loopOf 10 Tryz.f99)) (by kernel_rfl) Z9e),trivial⟩) Zhv Zgl rfl rfl Z9f (fun x=>by kernel_rfl)
abbrev Zkl:Shape:={ sl:=[(0,(.hole (.slice y9))),(1,(.hole (.slice y9)))],bl:=[],ts:=[(.slice y9),(.slice y9)],pin:=0 }
abbrev Zok:Shape:={ sl:=sl_1,bl:=[],ts:=ts_1,pin:=0 }
def Z4b (x:(List (T12) × List (T12))):Option (Bool) :=
 bif ((((List.length x.1):Nat):Int) != (((List.length x.2):Nat):Int)) then
 some false
 else
 (loop Z9f (x.1,x.2,(((List.length x.1):Nat):Int),(0:Int))).bind fun r9 =>
 match r9 with
 | .inl y10 =>
 some y10
 | .inr y10 =>
 some true
abbrev Zsj:=Spec.shp Zkl Zok Z4b
def Zdf:Ctx:={ tb:=mkTb T2.tbl,fx:=[],sum:=[(0,10,Yav Zhu Zgk (loop Z9d)),(0,5,Yav Zhv Zgl (loop Z9f))],nt:=71,pin:=0,nr:=true,ys:=[] }
theorem Z4c:Sound Tryz.prog 99 (Zsj) :=
 Sound.shp (C:=Zdf) (fn:=Tryz.f99) (by kernel_rfl) (c:=bodyOf Tryz.f99) (by kernel_rfl) (by decide) (ctxOK mixed tbl_ok rfl trivial trivial) (SumOK.of ⟨(Yax (d:=.loop (loopOf 10 Tryz.f99)) (by kernel_rfl) Z9e),(Yax (d:=.loop (loopOf 5 Tryz.f99)) (by kernel_rfl) Z9g),trivial⟩) (by kernel_rfl) Zkl Zok rfl (by decide) (by decide) rfl (by decide) rfl Z4b (fun x=>by kernel_rfl)
abbrev Zht:Shape:={ sl:=[(2,(.ptr 0 [])),(3,(.ptr 1 [])),(54,(.hole (.int .i64))),(55,(.hole (.int .i64)))],bl:=[.var (.hole y39),.var (.hole y39)],ts:=[(.int .i64),(.int .i64),y39,y39],pin:=0 }
abbrev Zgj:List (ETag × Shape):=[(.ret,{ sl:=sl_35,bl:=[],ts:=ts_1,pin:=0 }),(.exit 0,{ sl:=sl_37,bl:=[.var (.hole y39),.var (.hole y39)],ts:=[y39,y39],pin:=0 })]
def Z9b (x:T52):Option (T52 ⊕ ((Bool) ⊕ (T47 × T47))) :=
 bif (decide (x.2.1 < x.1)) then
 bif (inb x.2.1 (List.length x.2.2.1.1)) then
 bif (inb x.2.1 (List.length x.2.2.2.1)) then
 bif ((getAt (0:Int) x.2.2.1.1 (toN x.2.1)) != (getAt (0:Int) x.2.2.2.1 (toN x.2.1))) then
 some (.inr (.inl false))
 else
 some (.inl (x.1,(IntKind.wrap .i64 (x.2.1+(1:Int))),x.2.2.1,x.2.2.2))
 else
 none
 else
 none
 else
 some (.inr (.inr (x.2.2.1,x.2.2.2)))
def Zde:Ctx:={ tb:=mkTb T2.tbl,fx:=[(99,[],Zsj)],sum:=[],nt:=89,pin:=0,nr:=true,ys:=[] }
theorem Z9c:CSound Tryz.prog ⟨89,0,true⟩ (.loop (loopOf 5 Tryz.f46)) (Yav Zht Zgj (loop Z9b)) :=
 Y8e (C:=Zde) (ctxOK mixed tbl_ok rfl ⟨Z4c,trivial⟩ trivial) (SumOK.of trivial) Zht Zgj rfl rfl Z9b (fun x=>by kernel_rfl)
abbrev Zhr:Shape:={ sl:=sl_38,bl:=[],ts:=[(.slice y5),(.slice y5),(.int .i64),(.int .i64)],pin:=0 }
abbrev Zgh:List (ETag × Shape):=[(.ret,{ sl:=sl_35,bl:=[],ts:=ts_1,pin:=0 }),(.exit 0,{ sl:=[],bl:=[],ts:=[],pin:=0 })]
def Z97 (x:T26):Option (T26 ⊕ ((Bool) ⊕ Unit)) :=
 bif (decide (x.2.2.2 < x.2.2.1)) then
 bif (inb x.2.2.2 (List.length x.1)) then
 bif (inb x.2.2.2 (List.length x.2.1)) then
 bif (Bool.not (((getAt ((0:Int),(0:Int),(0:Int)) x.1 (toN x.2.2.2)).1 == (getAt ((0:Int),(0:Int),(0:Int)) x.2.1 (toN x.2.2.2)).1) && (((getAt ((0:Int),(0:Int),(0:Int)) x.1 (toN x.2.2.2)).2.1 == (getAt ((0:Int),(0:Int),(0:Int)) x.2.1 (toN x.2.2.2)).2.1) && ((getAt ((0:Int),(0:Int),(0:Int)) x.1 (toN x.2.2.2)).2.2 == (getAt ((0:Int),(0:Int),(0:Int)) x.2.1 (toN x.2.2.2)).2.2)))) then
 some (.inr (.inl false))
 else
 some (.inl (x.1,x.2.1,x.2.2.1,(IntKind.wrap .i64 (x.2.2.2+(1:Int)))))
 else
 none
 else
 none
 else
 some (.inr (.inr ()))
def Zdb:Ctx:={ tb:=mkTb T2.tbl,fx:=[],sum:=[],nt:=26,pin:=0,nr:=true,ys:=[] }
theorem Z98:CSound Tryz.prog ⟨26,0,true⟩ (.loop (loopOf 5 Tryz.f100)) (Yav Zhr Zgh (loop Z97)) :=
 Y8e (C:=Zdb) (ctxOK mixed tbl_ok rfl trivial trivial) (SumOK.of trivial) Zhr Zgh rfl rfl Z97 (fun x=>by kernel_rfl)
abbrev Zkj:Shape:={ sl:=[(0,(.hole (.slice y5))),(1,(.hole (.slice y5)))],bl:=[],ts:=[(.slice y5),(.slice y5)],pin:=0 }
abbrev Zoi:Shape:={ sl:=sl_1,bl:=[],ts:=ts_1,pin:=0 }
def Z47 (x:T24):Option (Bool) :=
 bif ((((List.length x.1):Nat):Int) != (((List.length x.2):Nat):Int)) then
 some false
 else
 (loop Z97 (x.1,x.2,(((List.length x.1):Nat):Int),(0:Int))).bind fun r13 =>
 match r13 with
 | .inl y14 =>
 some y14
 | .inr y14 =>
 some true
abbrev Zsh:=Spec.shp Zkj Zoi Z47
def Zda:Ctx:={ tb:=mkTb T2.tbl,fx:=[],sum:=[(0,5,Yav Zhr Zgh (loop Z97))],nt:=26,pin:=0,nr:=true,ys:=[] }
theorem Z48:Sound Tryz.prog 100 (Zsh) :=
 Sound.shp (C:=Zda) (fn:=Tryz.f100) (by kernel_rfl) (c:=bodyOf Tryz.f100) (by kernel_rfl) (by decide) (ctxOK mixed tbl_ok rfl trivial trivial) (SumOK.of ⟨(Yax (d:=.loop (loopOf 5 Tryz.f100)) (by kernel_rfl) Z98),trivial⟩) (by kernel_rfl) Zkj Zoi rfl (by decide) (by decide) rfl (by decide) rfl Z47 (fun x=>by kernel_rfl)
abbrev Zhs:Shape:={ sl:=[(2,(.ptr 0 [])),(3,(.ptr 1 [])),(72,(.hole (.int .i64))),(73,(.hole (.int .i64)))],bl:=[.var (.hole y39),.var (.hole y39)],ts:=[(.int .i64),(.int .i64),y39,y39],pin:=0 }
abbrev Zgi:List (ETag × Shape):=[(.ret,{ sl:=sl_35,bl:=[],ts:=ts_1,pin:=0 }),(.exit 2,{ sl:=[],bl:=[],ts:=[],pin:=0 })]
def Z99 (x:T52):Option (T52 ⊕ ((Bool) ⊕ Unit)) :=
 bif (decide (x.2.1 < x.1)) then
 bif (inb x.2.1 (List.length x.2.2.1.2.2.2.2.2)) then
 bif (inb x.2.1 (List.length x.2.2.2.2.2.2.2.2)) then
 (Z47 ((getAt ([]:List T7) x.2.2.1.2.2.2.2.2 (toN x.2.1)),(getAt ([]:List T7) x.2.2.2.2.2.2.2.2 (toN x.2.1)))).bind fun r12 =>
 bif (Bool.not r12) then
 some (.inr (.inl false))
 else
 some (.inl (x.1,(IntKind.wrap .i64 (x.2.1+(1:Int))),x.2.2.1,x.2.2.2))
 else
 none
 else
 none
 else
 some (.inr (.inr ()))
def Zdd:Ctx:={ tb:=mkTb T2.tbl,fx:=[(99,[],Zsj),(100,[],Zsh)],sum:=[(0,5,Yav Zht Zgj (loop Z9b))],nt:=89,pin:=0,nr:=true,ys:=[] }
theorem Z9a:CSound Tryz.prog ⟨89,0,true⟩ (.loop (loopOf 11 Tryz.f46)) (Yav Zhs Zgi (loop Z99)) :=
 Y8e (C:=Zdd) (ctxOK mixed tbl_ok rfl ⟨Z4c,Z48,trivial⟩ trivial) (SumOK.of ⟨(Yaw (by kernel_rfl)),trivial⟩) Zhs Zgi rfl rfl Z99 (fun x=>by kernel_rfl)
abbrev Zkk:Shape:={ sl:=[(0,(.hole y39)),(1,(.hole y39))],bl:=[],ts:=[y39,y39],pin:=0 }
abbrev Zoj:Shape:={ sl:=sl_1,bl:=[],ts:=ts_1,pin:=0 }
def Z49 (x:(T47 × T47)):Option (Bool) :=
 bif ((((List.length x.1.1):Nat):Int) != (((List.length x.2.1):Nat):Int)) then
 some false
 else
 bif (x.1.2.1 != x.2.2.1) then
 some false
 else
 bif (x.1.2.2.1 != x.2.2.2.1) then
 some false
 else
 bif (x.1.2.2.2.1 != x.2.2.2.2.1) then
 some false
 else
 (Z4b (x.1.2.2.2.2.1,x.2.2.2.2.2.1)).bind fun r8 =>
 bif (Bool.not r8) then
 some false
 else
 bif ((((List.length x.1.2.2.2.2.2):Nat):Int) != (((List.length x.2.2.2.2.2.2):Nat):Int)) then
 some false
 else
 (loop Z9b ((((List.length x.1.1):Nat):Int),(0:Int),x.1,x.2)).bind fun r9 =>
 match r9 with
 | .inl y10 =>
 some y10
 | .inr y10 =>
 (loop Z99 ((((List.length y10.1.2.2.2.2.2):Nat):Int),(0:Int),y10.1,y10.2)).bind fun r11 =>
 match r11 with
 | .inl y12 =>
 some y12
 | .inr y12 =>
 some true
abbrev Zsi:=Spec.shp Zkk Zoj Z49
def Zdc:Ctx:={ tb:=mkTb T2.tbl,fx:=[(99,[],Zsj),(100,[],Zsh)],sum:=[(0,5,Yav Zht Zgj (loop Z9b)),(0,11,Yav Zhs Zgi (loop Z99))],nt:=89,pin:=0,nr:=true,ys:=[] }
theorem Z4a:Sound Tryz.prog 46 (Zsi) :=
 Sound.shp (C:=Zdc) (fn:=Tryz.f46) (by kernel_rfl) (c:=bodyOf Tryz.f46) (by kernel_rfl) (by decide) (ctxOK mixed tbl_ok rfl ⟨Z4c,Z48,trivial⟩ trivial) (SumOK.of ⟨(Yax (d:=.loop (loopOf 5 Tryz.f46)) (by kernel_rfl) Z9c),(Yax (d:=.loop (loopOf 11 Tryz.f46)) (by kernel_rfl) Z9a),trivial⟩) (by kernel_rfl) Zkk Zoj rfl (by decide) (by decide) rfl (by decide) rfl Z49 (fun x=>by kernel_rfl)
abbrev Zhq:Shape:={ sl:=sl_38,bl:=[],ts:=[(.slice y5),(.slice y5),(.int .i64),(.int .i64)],pin:=0 }
abbrev Zgg:List (ETag × Shape):=[(.ret,{ sl:=sl_35,bl:=[],ts:=ts_1,pin:=0 }),(.exit 0,{ sl:=[],bl:=[],ts:=[],pin:=0 })]
def Z95 (x:T26):Option (T26 ⊕ ((Bool) ⊕ Unit)) :=
 bif (decide (x.2.2.2 < x.2.2.1)) then
 bif (inb x.2.2.2 (List.length x.1)) then
 bif (inb x.2.2.2 (List.length x.2.1)) then
 bif (Bool.not (((getAt ((0:Int),(0:Int),(0:Int)) x.1 (toN x.2.2.2)).1 == (getAt ((0:Int),(0:Int),(0:Int)) x.2.1 (toN x.2.2.2)).1) && (((getAt ((0:Int),(0:Int),(0:Int)) x.1 (toN x.2.2.2)).2.1 == (getAt ((0:Int),(0:Int),(0:Int)) x.2.1 (toN x.2.2.2)).2.1) && ((getAt ((0:Int),(0:Int),(0:Int)) x.1 (toN x.2.2.2)).2.2 == (getAt ((0:Int),(0:Int),(0:Int)) x.2.1 (toN x.2.2.2)).2.2)))) then
 some (.inr (.inl false))
 else
 some (.inl (x.1,x.2.1,x.2.2.1,(IntKind.wrap .i64 (x.2.2.2+(1:Int)))))
 else
 none
 else
 none
 else
 some (.inr (.inr ()))
def Zd9:Ctx:={ tb:=mkTb T2.tbl,fx:=[],sum:=[],nt:=26,pin:=0,nr:=true,ys:=[] }
theorem Z96:CSound Tryz.prog ⟨26,0,true⟩ (.loop (loopOf 5 Tryz.f101)) (Yav Zhq Zgg (loop Z95)) :=
 Y8e (C:=Zd9) (ctxOK mixed tbl_ok rfl trivial trivial) (SumOK.of trivial) Zhq Zgg rfl rfl Z95 (fun x=>by kernel_rfl)
abbrev Zki:Shape:={ sl:=[(0,(.hole (.slice y5))),(1,(.hole (.slice y5)))],bl:=[],ts:=[(.slice y5),(.slice y5)],pin:=0 }
abbrev Zoh:Shape:={ sl:=sl_1,bl:=[],ts:=ts_1,pin:=0 }
def Z45 (x:T24):Option (Bool) :=
 bif ((((List.length x.1):Nat):Int) != (((List.length x.2):Nat):Int)) then
 some false
 else
 (loop Z95 (x.1,x.2,(((List.length x.1):Nat):Int),(0:Int))).bind fun r11 =>
 match r11 with
 | .inl y12 =>
 some y12
 | .inr y12 =>
 some true
abbrev Zsg:=Spec.shp Zki Zoh Z45
def Zd8:Ctx:={ tb:=mkTb T2.tbl,fx:=[],sum:=[(0,5,Yav Zhq Zgg (loop Z95))],nt:=26,pin:=0,nr:=true,ys:=[] }
theorem Z46:Sound Tryz.prog 101 (Zsg) :=
 Sound.shp (C:=Zd8) (fn:=Tryz.f101) (by kernel_rfl) (c:=bodyOf Tryz.f101) (by kernel_rfl) (by decide) (ctxOK mixed tbl_ok rfl trivial trivial) (SumOK.of ⟨(Yax (d:=.loop (loopOf 5 Tryz.f101)) (by kernel_rfl) Z96),trivial⟩) (by kernel_rfl) Zki Zoh rfl (by decide) (by decide) rfl (by decide) rfl Z45 (fun x=>by kernel_rfl)
abbrev Zkh:Shape:={ sl:=[(0,(.hole y21))],bl:=[],ts:=[y21],pin:=0 }
abbrev Zog:Shape:={ sl:=sl_1,bl:=[],ts:=ts_1,pin:=0 }
def Z43 (x:(T16)):Option (Bool) :=
 bif (decide (x.1 < (0:Int))) then
 some false
 else
 bif (decide (x.1 > (8:Int))) then
 some false
 else
 bif ((((List.length x.2.2.1):Nat):Int) != x.1) then
 some false
 else
 bif (decide (x.2.2.2 < (0:Int))) then
 some false
 else
 bif (decide (x.2.2.2 > x.1)) then
 some false
 else
 bif (x.2.1 == (0:Int)) then
 some true
 else
 bif (decide (x.2.1 > (0:Int))) then
 some (decide (x.2.1 < x.1))
 else
 some false
abbrev Zsf:=Spec.shp Zkh Zog Z43
def Zd7:Ctx:={ tb:=mkTb T2.tbl,fx:=[],sum:=[],nt:=46,pin:=0,nr:=true,ys:=[] }
theorem Z44:Sound Tryz.prog 102 (Zsf) :=
 Sound.shp (C:=Zd7) (fn:=Tryz.f102) (by kernel_rfl) (c:=bodyOf Tryz.f102) (by kernel_rfl) (by decide) (ctxOK mixed tbl_ok rfl trivial trivial) (SumOK.of trivial) (by kernel_rfl) Zkh Zog rfl (by decide) (by decide) rfl (by decide) rfl Z43 (fun x=>by kernel_rfl)
abbrev Zhp:Shape:={ sl:=[(1,(.ptr 0 [])),(3,(.sl 1)),(4,(.hole (.int .i64)))],bl:=[.var (.hole y21),.row (.int .i64)],ts:=[(.int .i64),y21,y0],pin:=0 }
abbrev Zgf:List (ETag × Shape):=[(.exit 0,{ sl:=[(3,(.sl 0))],bl:=bl_14,ts:=[y0],pin:=0 })]
def Z93 (x:T33):Option (T33 ⊕ (List Int)) :=
 bif (decide (x.1 < x.2.1.2.2.2)) then
 bif (decide ((IntKind.wrap .i64 (x.2.1.2.1+x.1)) ≥ x.2.1.1)) then
 bif (inb (IntKind.wrap .i64 ((IntKind.wrap .i64 (x.2.1.2.1+x.1)) - x.2.1.1)) (List.length x.2.1.2.2.1)) then
 bif (fits ((List.length x.2.2)+(List.length ((getAt (0:Int) x.2.1.2.2.1 (toN (IntKind.wrap .i64 ((IntKind.wrap .i64 (x.2.1.2.1+x.1)) - x.2.1.1)))) :: ([]:List Int))))) then
 some (.inl ((IntKind.wrap .i64 (x.1+(1:Int))),x.2.1,(x.2.2++((getAt (0:Int) x.2.1.2.2.1 (toN (IntKind.wrap .i64 ((IntKind.wrap .i64 (x.2.1.2.1+x.1)) - x.2.1.1)))) :: ([]:List Int)))))
 else
 none
 else
 none
 else
 bif (inb (IntKind.wrap .i64 (x.2.1.2.1+x.1)) (List.length x.2.1.2.2.1)) then
 bif (fits ((List.length x.2.2)+(List.length ((getAt (0:Int) x.2.1.2.2.1 (toN (IntKind.wrap .i64 (x.2.1.2.1+x.1)))) :: ([]:List Int))))) then
 some (.inl ((IntKind.wrap .i64 (x.1+(1:Int))),x.2.1,(x.2.2++((getAt (0:Int) x.2.1.2.2.1 (toN (IntKind.wrap .i64 (x.2.1.2.1+x.1)))) :: ([]:List Int)))))
 else
 none
 else
 none
 else
 some (.inr x.2.2)
def Zd6:Ctx:={ tb:=mkTb T2.tbl,fx:=[],sum:=[],nt:=34,pin:=0,nr:=true,ys:=[] }
theorem Z94:CSound Tryz.prog ⟨34,0,true⟩ (.loop (loopOf 4 Tryz.f104)) (Yav Zhp Zgf (loop Z93)) :=
 Y8e (C:=Zd6) (ctxOK mixed tbl_ok rfl trivial trivial) (SumOK.of trivial) Zhp Zgf rfl rfl Z93 (fun x=>by kernel_rfl)
abbrev Zkg:Shape:={ sl:=[(0,(.hole y21))],bl:=[],ts:=[y21],pin:=0 }
abbrev Zof:Shape:={ sl:=[(0,(.hole y0))],bl:=[],ts:=[y0],pin:=0 }
def Z41 (x:(T16)):Option (List Int) :=
 (loop Z93 ((0:Int),x,([]:List Int))).bind fun r14 =>
 some r14
abbrev Zse:=Spec.shp Zkg Zof Z41
def Zd5:Ctx:={ tb:=mkTb T2.tbl,fx:=[],sum:=[(0,4,Yav Zhp Zgf (loop Z93))],nt:=34,pin:=0,nr:=true,ys:=[] }
theorem Z42:Sound Tryz.prog 104 (Zse) :=
 Sound.shp (C:=Zd5) (fn:=Tryz.f104) (by kernel_rfl) (c:=bodyOf Tryz.f104) (by kernel_rfl) (by decide) (ctxOK mixed tbl_ok rfl trivial trivial) (SumOK.of ⟨(Yax (d:=.loop (loopOf 4 Tryz.f104)) (by kernel_rfl) Z94),trivial⟩) (by kernel_rfl) Zkg Zof rfl (by decide) (by decide) rfl (by decide) rfl Z41 (fun x=>by kernel_rfl)
abbrev Zho:Shape:={ sl:=[(2,(.hole y0)),(26,(.hole y0)),(27,(.hole (.int .i64))),(28,(.hole (.int .i64)))],bl:=[],ts:=[y0,y0,(.int .i64),(.int .i64)],pin:=0 }
abbrev Zge:List (ETag × Shape):=[(.ret,{ sl:=[(6,(.hole .bool))],bl:=[],ts:=ts_1,pin:=0 }),(.exit 0,{ sl:=[],bl:=[],ts:=[],pin:=0 })]
def Z91 (x:T10):Option (T10 ⊕ ((Bool) ⊕ Unit)) :=
 bif (decide (x.2.2.2 < x.2.2.1)) then
 bif (inb x.2.2.2 (List.length x.2.1)) then
 bif (inb x.2.2.2 (List.length x.1)) then
 bif ((getAt (0:Int) x.2.1 (toN x.2.2.2)) != (getAt (0:Int) x.1 (toN x.2.2.2))) then
 some (.inr (.inl false))
 else
 some (.inl (x.1,x.2.1,x.2.2.1,(IntKind.wrap .i64 (x.2.2.2+(1:Int)))))
 else
 none
 else
 none
 else
 some (.inr (.inr ()))
def Zd4:Ctx:={ tb:=mkTb T2.tbl,fx:=[(102,[],Zsf),(104,[],Zse)],sum:=[],nt:=40,pin:=0,nr:=true,ys:=[] }
theorem Z92:CSound Tryz.prog ⟨40,0,true⟩ (.loop (loopOf 5 Tryz.f103)) (Yav Zho Zge (loop Z91)) :=
 Y8e (C:=Zd4) (ctxOK mixed tbl_ok rfl ⟨Z44,Z42,trivial⟩ trivial) (SumOK.of trivial) Zho Zge rfl rfl Z91 (fun x=>by kernel_rfl)
abbrev Zkf:Shape:={ sl:=[(0,(.hole y21)),(1,(.hole (.int .i64))),(2,(.hole y0))],bl:=[],ts:=[y21,(.int .i64),y0],pin:=0 }
abbrev Zoe:Shape:={ sl:=sl_1,bl:=[],ts:=ts_1,pin:=0 }
def Z3z (x:(T16 × Int × List Int)):Option (Bool) :=
 (Z43 x.1).bind fun r15 =>
 bif (Bool.not r15) then
 some false
 else
 bif (x.1.1 != x.2.1) then
 some false
 else
 bif (x.1.2.2.2 != (((List.length x.2.2):Nat):Int)) then
 some false
 else
 (Z41 x.1).bind fun r16 =>
 (loop Z91 (x.2.2,r16,(((List.length r16):Nat):Int),(0:Int))).bind fun r17 =>
 match r17 with
 | .inl y18 =>
 some y18
 | .inr y18 =>
 some true
abbrev Zsd:=Spec.shp Zkf Zoe Z3z
def Zd3:Ctx:={ tb:=mkTb T2.tbl,fx:=[(102,[],Zsf),(104,[],Zse)],sum:=[(0,5,Yav Zho Zge (loop Z91))],nt:=40,pin:=0,nr:=true,ys:=[] }
theorem Z40:Sound Tryz.prog 103 (Zsd) :=
 Sound.shp (C:=Zd3) (fn:=Tryz.f103) (by kernel_rfl) (c:=bodyOf Tryz.f103) (by kernel_rfl) (by decide) (ctxOK mixed tbl_ok rfl ⟨Z44,Z42,trivial⟩ trivial) (SumOK.of ⟨(Yax (d:=.loop (loopOf 5 Tryz.f103)) (by kernel_rfl) Z92),trivial⟩) (by kernel_rfl) Zkf Zoe rfl (by decide) (by decide) rfl (by decide) rfl Z3z (fun x=>by kernel_rfl)
abbrev Zkm:Shape:={ sl:=[(0,(.hole y40)),(1,(.hole y40))],bl:=[],ts:=[y40,y40],pin:=0 }
abbrev Zol:Shape:={ sl:=sl_1,bl:=[],ts:=ts_1,pin:=0 }
def Z4d (x:((Int × T40) × (Int × T40))):Option (Bool) :=
 bif (x.1.1 != x.2.1) then
 some false
 else
 bif (Bool.not (x.1.2.1 == x.2.2.1)) then
 some false
 else
 bif (x.1.2.2.2.1 != x.2.2.2.2.1) then
 some false
 else
 bif (x.1.2.2.2.2.1 != x.2.2.2.2.2.1) then
 some false
 else
 (Z45 (x.1.2.2.2.2.2.1,x.2.2.2.2.2.2.1)).bind fun r10 =>
 bif (Bool.not r10) then
 some false
 else
 (Z45 (x.1.2.2.2.2.2.2,x.2.2.2.2.2.2.2)).bind fun r11 =>
 bif (Bool.not r11) then
 some false
 else
 (Z43 x.2.2.2.1).bind fun r12 =>
 bif r12 then
 (Z41 x.2.2.2.1).bind fun r13 =>
 (Z3z (x.1.2.2.1,x.2.2.2.1.1,r13)).bind fun r14 =>
 some r14
 else
 some false
abbrev Zsk:=Spec.shp Zkm Zol Z4d
def Zdi:Ctx:={ tb:=mkTb T2.tbl,fx:=[(101,[],Zsg),(102,[],Zsf),(104,[],Zse),(103,[],Zsd)],sum:=[],nt:=61,pin:=0,nr:=true,ys:=[] }
theorem Z4e:Sound Tryz.prog 47 (Zsk) :=
 Sound.shp (C:=Zdi) (fn:=Tryz.f47) (by kernel_rfl) (c:=bodyOf Tryz.f47) (by kernel_rfl) (by decide) (ctxOK mixed tbl_ok rfl ⟨Z46,Z44,Z42,Z40,trivial⟩ trivial) (SumOK.of trivial) (by kernel_rfl) Zkm Zol rfl (by decide) (by decide) rfl (by decide) rfl Z4d (fun x=>by kernel_rfl)
abbrev Zhz:Shape:={ sl:=[(2,(.ptr 0 [])),(3,(.ptr 1 [])),(65,(.hole (.int .i64))),(66,(.hole (.int .i64)))],bl:=bl_20,ts:=[(.int .i64),(.int .i64),y45,y45],pin:=0 }
abbrev Zgp:List (ETag × Shape):=[(.ret,{ sl:=sl_35,bl:=[],ts:=ts_1,pin:=0 }),(.exit 0,{ sl:=sl_37,bl:=bl_20,ts:=[y45,y45],pin:=0 })]
def Z9n (x:T65):Option (T65 ⊕ ((Bool) ⊕ ((T47 × T61) × (T47 × T61)))) :=
 bif (decide (x.2.1 < x.1)) then
 bif (inb x.2.1 (List.length x.2.2.1.2.2.1)) then
 bif (inb x.2.1 (List.length x.2.2.2.2.2.1)) then
 (Z4d ((getAt ((0:Int),false,((0:Int),(0:Int),([]:List Int),(0:Int)),(0:Int),(0:Int),([]:List T7),([]:List T7)) x.2.2.1.2.2.1 (toN x.2.1)),(getAt ((0:Int),false,((0:Int),(0:Int),([]:List Int),(0:Int)),(0:Int),(0:Int),([]:List T7),([]:List T7)) x.2.2.2.2.2.1 (toN x.2.1)))).bind fun r9 =>
 bif (Bool.not r9) then
 some (.inr (.inl false))
 else
 some (.inl (x.1,(IntKind.wrap .i64 (x.2.1+(1:Int))),x.2.2.1,x.2.2.2))
 else
 none
 else
 none
 else
 some (.inr (.inr (x.2.2.1,x.2.2.2)))
def Zdq:Ctx:={ tb:=mkTb T2.tbl,fx:=[(45,[],Zsp),(46,[],Zsi),(47,[],Zsk)],sum:=[],nt:=120,pin:=0,nr:=true,ys:=[] }
theorem Z9o:CSound Tryz.prog ⟨120,0,true⟩ (.loop (loopOf 5 Tryz.f17)) (Yav Zhz Zgp (loop Z9n)) :=
 Y8e (C:=Zdq) (ctxOK mixed tbl_ok rfl ⟨Z4o,Z4a,Z4e,trivial⟩ trivial) (SumOK.of trivial) Zhz Zgp rfl rfl Z9n (fun x=>by kernel_rfl)
abbrev Zkn:Shape:={ sl:=[(0,(.hole y15)),(1,(.hole y15))],bl:=[],ts:=[y15,y15],pin:=0 }
abbrev Zom:Shape:={ sl:=sl_1,bl:=[],ts:=ts_1,pin:=0 }
def Z4f (x:(T18 × T18)):Option (Bool) :=
 bif (x.1.1 == x.2.1) then
 (Z45 (x.1.2,x.2.2)).bind fun r12 =>
 some r12
 else
 some false
abbrev Zsl:=Spec.shp Zkn Zom Z4f
def Zdj:Ctx:={ tb:=mkTb T2.tbl,fx:=[(101,[],Zsg)],sum:=[],nt:=17,pin:=0,nr:=true,ys:=[] }
theorem Z4g:Sound Tryz.prog 48 (Zsl) :=
 Sound.shp (C:=Zdj) (fn:=Tryz.f48) (by kernel_rfl) (c:=bodyOf Tryz.f48) (by kernel_rfl) (by decide) (ctxOK mixed tbl_ok rfl ⟨Z46,trivial⟩ trivial) (SumOK.of trivial) (by kernel_rfl) Zkn Zom rfl (by decide) (by decide) rfl (by decide) rfl Z4f (fun x=>by kernel_rfl)
abbrev Zhx:Shape:={ sl:=[(2,(.ptr 0 [])),(3,(.ptr 1 [])),(84,(.hole (.int .i64))),(85,(.hole (.int .i64)))],bl:=bl_20,ts:=[(.int .i64),(.int .i64),y45,y45],pin:=0 }
abbrev Zgn:List (ETag × Shape):=[(.ret,{ sl:=sl_35,bl:=[],ts:=ts_1,pin:=0 }),(.exit 2,{ sl:=sl_37,bl:=bl_20,ts:=[y45,y45],pin:=0 })]
def Z9j (x:T65):Option (T65 ⊕ ((Bool) ⊕ ((T47 × T61) × (T47 × T61)))) :=
 bif (decide (x.2.1 < x.1)) then
 bif (inb x.2.1 (List.length x.2.2.1.2.2.2.1)) then
 bif (inb x.2.1 (List.length x.2.2.2.2.2.2.1)) then
 (Z4f ((getAt (false,([]:List T7)) x.2.2.1.2.2.2.1 (toN x.2.1)),(getAt (false,([]:List T7)) x.2.2.2.2.2.2.1 (toN x.2.1)))).bind fun r11 =>
 bif (Bool.not r11) then
 some (.inr (.inl false))
 else
 some (.inl (x.1,(IntKind.wrap .i64 (x.2.1+(1:Int))),x.2.2.1,x.2.2.2))
 else
 none
 else
 none
 else
 some (.inr (.inr (x.2.2.1,x.2.2.2)))
def Zdo:Ctx:={ tb:=mkTb T2.tbl,fx:=[(45,[],Zsp),(46,[],Zsi),(47,[],Zsk),(48,[],Zsl)],sum:=[(0,5,Yav Zhz Zgp (loop Z9n))],nt:=120,pin:=0,nr:=true,ys:=[] }
theorem Z9k:CSound Tryz.prog ⟨120,0,true⟩ (.loop (loopOf 11 Tryz.f17)) (Yav Zhx Zgn (loop Z9j)) :=
 Y8e (C:=Zdo) (ctxOK mixed tbl_ok rfl ⟨Z4o,Z4a,Z4e,Z4g,trivial⟩ trivial) (SumOK.of ⟨(Yaw (by kernel_rfl)),trivial⟩) Zhx Zgn rfl rfl Z9j (fun x=>by kernel_rfl)
abbrev Zko:Shape:={ sl:=[(0,(.hole y23)),(1,(.hole y23))],bl:=[],ts:=[y23,y23],pin:=0 }
abbrev Zon:Shape:={ sl:=sl_1,bl:=[],ts:=ts_1,pin:=0 }
def Z4h (x:((Int × T13) × (Int × T13))):Option (Bool) :=
 bif (x.1.1 == x.2.1) then
 bif (x.1.2.1 == x.2.2.1) then
 (Z45 (x.1.2.2,x.2.2.2)).bind fun r14 =>
 some r14
 else
 some false
 else
 some false
abbrev Zsm:=Spec.shp Zko Zon Z4h
def Zdk:Ctx:={ tb:=mkTb T2.tbl,fx:=[(101,[],Zsg)],sum:=[],nt:=24,pin:=0,nr:=true,ys:=[] }
theorem Z4i:Sound Tryz.prog 49 (Zsm) :=
 Sound.shp (C:=Zdk) (fn:=Tryz.f49) (by kernel_rfl) (c:=bodyOf Tryz.f49) (by kernel_rfl) (by decide) (ctxOK mixed tbl_ok rfl ⟨Z46,trivial⟩ trivial) (SumOK.of trivial) (by kernel_rfl) Zko Zon rfl (by decide) (by decide) rfl (by decide) rfl Z4h (fun x=>by kernel_rfl)
abbrev Zhy:Shape:={ sl:=[(2,(.ptr 0 [])),(3,(.ptr 1 [])),(103,(.hole (.int .i64))),(104,(.hole (.int .i64)))],bl:=bl_20,ts:=[(.int .i64),(.int .i64),y45,y45],pin:=0 }
abbrev Zgo:List (ETag × Shape):=[(.ret,{ sl:=sl_35,bl:=[],ts:=ts_1,pin:=0 }),(.exit 4,{ sl:=[],bl:=[],ts:=[],pin:=0 })]
def Z9l (x:T65):Option (T65 ⊕ ((Bool) ⊕ Unit)) :=
 bif (decide (x.2.1 < x.1)) then
 bif (inb x.2.1 (List.length x.2.2.1.2.2.2.2.1)) then
 bif (inb x.2.1 (List.length x.2.2.2.2.2.2.2.1)) then
 (Z4h ((getAt ((0:Int),(0:Int),([]:List T7)) x.2.2.1.2.2.2.2.1 (toN x.2.1)),(getAt ((0:Int),(0:Int),([]:List T7)) x.2.2.2.2.2.2.2.1 (toN x.2.1)))).bind fun r13 =>
 bif (Bool.not r13) then
 some (.inr (.inl false))
 else
 some (.inl (x.1,(IntKind.wrap .i64 (x.2.1+(1:Int))),x.2.2.1,x.2.2.2))
 else
 none
 else
 none
 else
 some (.inr (.inr ()))
def Zdp:Ctx:={ tb:=mkTb T2.tbl,fx:=[(45,[],Zsp),(46,[],Zsi),(47,[],Zsk),(48,[],Zsl),(49,[],Zsm)],sum:=[(0,5,Yav Zhz Zgp (loop Z9n)),(0,11,Yav Zhx Zgn (loop Z9j))],nt:=120,pin:=0,nr:=true,ys:=[] }
theorem Z9m:CSound Tryz.prog ⟨120,0,true⟩ (.loop (loopOf 17 Tryz.f17)) (Yav Zhy Zgo (loop Z9l)) :=
 Y8e (C:=Zdp) (ctxOK mixed tbl_ok rfl ⟨Z4o,Z4a,Z4e,Z4g,Z4i,trivial⟩ trivial) (SumOK.of ⟨(Yaw (by kernel_rfl)),(Yaw (by kernel_rfl)),trivial⟩) Zhy Zgo rfl rfl Z9l (fun x=>by kernel_rfl)
abbrev Zkq:Shape:={ sl:=[(0,(.hole y45)),(1,(.hole y45))],bl:=[],ts:=[y45,y45],pin:=0 }
abbrev Zop:Shape:={ sl:=sl_1,bl:=[],ts:=ts_1,pin:=0 }
def Z4l (x:((T47 × T61) × (T47 × T61))):Option (Bool) :=
 bif (x.1.2.2.2.2.2.1 != x.2.2.2.2.2.2.1) then
 some false
 else
 bif (x.1.2.2.2.2.2.2 != x.2.2.2.2.2.2.2) then
 some false
 else
 (Z4n (x.1.2.1,x.2.2.1)).bind fun r6 =>
 bif (Bool.not r6) then
 some false
 else
 (Z49 (x.1.1,x.2.1)).bind fun r7 =>
 bif (Bool.not r7) then
 some false
 else
 bif ((((List.length x.1.2.2.1):Nat):Int) != (((List.length x.2.2.2.1):Nat):Int)) then
 some false
 else
 bif ((((List.length x.1.2.2.2.1):Nat):Int) != (((List.length x.2.2.2.2.1):Nat):Int)) then
 some false
 else
 bif ((((List.length x.1.2.2.2.2.1):Nat):Int) != (((List.length x.2.2.2.2.2.1):Nat):Int)) then
 some false
 else
 (loop Z9n ((((List.length x.1.2.2.1):Nat):Int),(0:Int),x.1,x.2)).bind fun r8 =>
 match r8 with
 | .inl y9 =>
 some y9
 | .inr y9 =>
 (loop Z9j ((((List.length y9.1.2.2.2.1):Nat):Int),(0:Int),y9.1,y9.2)).bind fun r10 =>
 match r10 with
 | .inl y11 =>
 some y11
 | .inr y11 =>
 (loop Z9l ((((List.length y11.1.2.2.2.2.1):Nat):Int),(0:Int),y11.1,y11.2)).bind fun r12 =>
 match r12 with
 | .inl y13 =>
 some y13
 | .inr y13 =>
 some true
abbrev Zso:=Spec.shp Zkq Zop Z4l
def Zdn:Ctx:={ tb:=mkTb T2.tbl,fx:=[(45,[],Zsp),(46,[],Zsi),(47,[],Zsk),(48,[],Zsl),(49,[],Zsm)],sum:=[(0,5,Yav Zhz Zgp (loop Z9n)),(0,11,Yav Zhx Zgn (loop Z9j)),(0,17,Yav Zhy Zgo (loop Z9l))],nt:=120,pin:=0,nr:=true,ys:=[] }
theorem Z4m:Sound Tryz.prog 17 (Zso) :=
 Sound.shp (C:=Zdn) (fn:=Tryz.f17) (by kernel_rfl) (c:=bodyOf Tryz.f17) (by kernel_rfl) (by decide) (ctxOK mixed tbl_ok rfl ⟨Z4o,Z4a,Z4e,Z4g,Z4i,trivial⟩ trivial) (SumOK.of ⟨(Yax (d:=.loop (loopOf 5 Tryz.f17)) (by kernel_rfl) Z9o),(Yax (d:=.loop (loopOf 11 Tryz.f17)) (by kernel_rfl) Z9k),(Yax (d:=.loop (loopOf 17 Tryz.f17)) (by kernel_rfl) Z9m),trivial⟩) (by kernel_rfl) Zkq Zop rfl (by decide) (by decide) rfl (by decide) rfl Z4l (fun x=>by kernel_rfl)
abbrev Zhw:Shape:={ sl:=[(0,(.hole y27)),(1,(.hole y27)),(12,(.hole (.int .i64))),(13,(.hole (.int .i64)))],bl:=[],ts:=[y27,y27,(.int .i64),(.int .i64)],pin:=0 }
abbrev Zgm:List (ETag × Shape):=[(.ret,{ sl:=sl_35,bl:=[],ts:=ts_1,pin:=0 }),(.exit 0,{ sl:=[],bl:=[],ts:=[],pin:=0 })]
def Z9h (x:(List (T20) × List (T20) × Int × Int)):Option ((List (T20) × List (T20) × Int × Int) ⊕ ((Bool) ⊕ Unit)) :=
 bif (decide (x.2.2.2 < x.2.2.1)) then
 bif (inb x.2.2.2 (List.length x.1)) then
 bif (inb x.2.2.2 (List.length x.2.1)) then
 bif (Bool.not (((getAt ((0:Int),(0:Int),(0:Int),(0:Int),(0:Int)) x.1 (toN x.2.2.2)).1 == (getAt ((0:Int),(0:Int),(0:Int),(0:Int),(0:Int)) x.2.1 (toN x.2.2.2)).1) && (((getAt ((0:Int),(0:Int),(0:Int),(0:Int),(0:Int)) x.1 (toN x.2.2.2)).2.1 == (getAt ((0:Int),(0:Int),(0:Int),(0:Int),(0:Int)) x.2.1 (toN x.2.2.2)).2.1) && (((getAt ((0:Int),(0:Int),(0:Int),(0:Int),(0:Int)) x.1 (toN x.2.2.2)).2.2.1 == (getAt ((0:Int),(0:Int),(0:Int),(0:Int),(0:Int)) x.2.1 (toN x.2.2.2)).2.2.1) && (((getAt ((0:Int),(0:Int),(0:Int),(0:Int),(0:Int)) x.1 (toN x.2.2.2)).2.2.2.1 == (getAt ((0:Int),(0:Int),(0:Int),(0:Int),(0:Int)) x.2.1 (toN x.2.2.2)).2.2.2.1) && ((getAt ((0:Int),(0:Int),(0:Int),(0:Int),(0:Int)) x.1 (toN x.2.2.2)).2.2.2.2 == (getAt ((0:Int),(0:Int),(0:Int),(0:Int),(0:Int)) x.2.1 (toN x.2.2.2)).2.2.2.2)))))) then
 some (.inr (.inl false))
 else
 some (.inl (x.1,x.2.1,x.2.2.1,(IntKind.wrap .i64 (x.2.2.2+(1:Int)))))
 else
 none
 else
 none
 else
 some (.inr (.inr ()))
def Zdm:Ctx:={ tb:=mkTb T2.tbl,fx:=[],sum:=[],nt:=26,pin:=0,nr:=true,ys:=[] }
theorem Z9i:CSound Tryz.prog ⟨26,0,true⟩ (.loop (loopOf 5 Tryz.f19)) (Yav Zhw Zgm (loop Z9h)) :=
 Y8e (C:=Zdm) (ctxOK mixed tbl_ok rfl trivial trivial) (SumOK.of trivial) Zhw Zgm rfl rfl Z9h (fun x=>by kernel_rfl)
abbrev Zkp:Shape:={ sl:=[(0,(.hole y27)),(1,(.hole y27))],bl:=[],ts:=[y27,y27],pin:=0 }
abbrev Zoo:Shape:={ sl:=sl_1,bl:=[],ts:=ts_1,pin:=0 }
def Z4j (x:(List (T20) × List (T20))):Option (Bool) :=
 bif ((((List.length x.1):Nat):Int) != (((List.length x.2):Nat):Int)) then
 some false
 else
 (loop Z9h (x.1,x.2,(((List.length x.1):Nat):Int),(0:Int))).bind fun r7 =>
 match r7 with
 | .inl y8 =>
 some y8
 | .inr y8 =>
 some true
abbrev Zsn:=Spec.shp Zkp Zoo Z4j
def Zdl:Ctx:={ tb:=mkTb T2.tbl,fx:=[],sum:=[(0,5,Yav Zhw Zgm (loop Z9h))],nt:=26,pin:=0,nr:=true,ys:=[] }
theorem Z4k:Sound Tryz.prog 19 (Zsn) :=
 Sound.shp (C:=Zdl) (fn:=Tryz.f19) (by kernel_rfl) (c:=bodyOf Tryz.f19) (by kernel_rfl) (by decide) (ctxOK mixed tbl_ok rfl trivial trivial) (SumOK.of ⟨(Yax (d:=.loop (loopOf 5 Tryz.f19)) (by kernel_rfl) Z9i),trivial⟩) (by kernel_rfl) Zkp Zoo rfl (by decide) (by decide) rfl (by decide) rfl Z4j (fun x=>by kernel_rfl)
end
end Go.Proofs.YthdlpkdojipfhaaGreat.VX.VxM_M
set_option linter.unusedVariables false
set_option maxRecDepth 100000
namespace Go.Proofs.YthdlpkdojipfhaaGreat.VX.VxM_M
open Go.Proofs Go.Proofs.YthdlpkdojipfhaaGreat.VX.T2
noncomputable section
abbrev Zke:Shape:={ sl:=[(0,(.hole (.slice y4))),(1,(.hole (.int .i64)))],bl:=[],ts:=[(.slice y4),(.int .i64)],pin:=0 }
abbrev Zod:Shape:={ sl:=[(0,(.hole y4))],bl:=[],ts:=[y4],pin:=0 }
def Z3x (x:(List (Int × Int) × Int)):Option (Int × Int) :=
 bif ((IntKind.wrap .u64 (((List.length x.1):Nat):Int)) != (0:Int)) then
 bif (inb (IntKind.wrap .i64 (Int.tmod (IntKind.wrap .u64 x.2) (IntKind.wrap .u64 (((List.length x.1):Nat):Int)))) (List.length x.1)) then
 some (getAt ((0:Int),(0:Int)) x.1 (toN (IntKind.wrap .i64 (Int.tmod (IntKind.wrap .u64 x.2) (IntKind.wrap .u64 (((List.length x.1):Nat):Int))))))
 else
 none
 else
 none
abbrev Zsc:=Spec.shp Zke Zod Z3x
def Zd2:Ctx:={ tb:=mkTb T2.tbl,fx:=[],sum:=[],nt:=15,pin:=0,nr:=true,ys:=[] }
theorem Z3y:Sound Tryz.prog 24 (Zsc) :=
 Sound.shp (C:=Zd2) (fn:=Tryz.f24) (by kernel_rfl) (c:=bodyOf Tryz.f24) (by kernel_rfl) (by decide) (ctxOK mixed tbl_ok rfl trivial trivial) (SumOK.of trivial) (by kernel_rfl) Zke Zod rfl (by decide) (by decide) rfl (by decide) rfl Z3x (fun x=>by kernel_rfl)
abbrev Zhi:Shape:={ sl:=[(5,(.ptr 0 [])),(9,(.hole (.int .i64))),(10,(.hole (.slice y4))),(11,(.sl 1)),(49,(.hole y0)),(50,(.hole (.int .i64))),(51,(.hole (.int .i64))),(72,(.hole (.slice y4))),(73,(.hole (.int .i64))),(74,(.hole (.int .i64)))],bl:=bl_13,ts:=[(.int .i64),(.slice y4),y0,(.int .i64),(.int .i64),(.slice y4),(.int .i64),(.int .i64),y45,(.slice y4)],pin:=0 }
abbrev Zg8:List (ETag × Shape):=[(.ret,{ sl:=sl_35,bl:=[],ts:=ts_1,pin:=0 }),(.exit 2,{ sl:=[(5,(.ptr 0 [])),(9,(.hole (.int .i64))),(10,(.hole (.slice y4))),(11,(.sl 1)),(49,(.hole y0)),(50,(.hole (.int .i64))),(51,(.hole (.int .i64)))],bl:=bl_13,ts:=[(.int .i64),(.slice y4),y0,(.int .i64),(.int .i64),y45,(.slice y4)],pin:=0 })]
def Z8p (x:(Int × List (Int × Int) × List Int × Int × Int × List (Int × Int) × Int × Int × (T47 × T61) × List (Int × Int))):Option ((Int × List (Int × Int) × List Int × Int × Int × List (Int × Int) × Int × Int × (T47 × T61) × List (Int × Int)) ⊕ ((Bool) ⊕ (Int × List (Int × Int) × List Int × Int × Int × (T47 × T61) × List (Int × Int)))) :=
 bif (decide (x.2.2.2.2.2.2.2.1 < x.2.2.2.2.2.2.1)) then
 bif (inb x.2.2.2.2.2.2.2.1 (List.length x.2.2.2.2.2.1)) then
 bif (decide ((getAt ((0:Int),(0:Int)) x.2.2.2.2.2.1 (toN x.2.2.2.2.2.2.2.1)).1 < (0:Int))) then
 some (.inr (.inl false))
 else
 bif (decide ((getAt ((0:Int),(0:Int)) x.2.2.2.2.2.1 (toN x.2.2.2.2.2.2.2.1)).1 ≥ (((List.length x.2.2.2.2.2.2.2.2.1.2.1):Nat):Int))) then
 some (.inr (.inl false))
 else
 bif (inb (getAt ((0:Int),(0:Int)) x.2.2.2.2.2.1 (toN x.2.2.2.2.2.2.2.1)).1 (List.length x.2.2.2.2.2.2.2.2.1.2.1)) then
 bif (decide ((getAt ((0:Int),(0:Int),(0:Int),false) x.2.2.2.2.2.2.2.2.1.2.1 (toN (getAt ((0:Int),(0:Int)) x.2.2.2.2.2.1 (toN x.2.2.2.2.2.2.2.1)).1)).1 < (0:Int))) then
 some (.inr (.inl false))
 else
 bif (decide ((getAt ((0:Int),(0:Int),(0:Int),false) x.2.2.2.2.2.2.2.2.1.2.1 (toN (getAt ((0:Int),(0:Int)) x.2.2.2.2.2.1 (toN x.2.2.2.2.2.2.2.1)).1)).1 ≥ (((List.length x.2.2.2.2.2.2.2.2.1.1.2.2.2.2.2):Nat):Int))) then
 some (.inr (.inl false))
 else
 bif (decide ((getAt ((0:Int),(0:Int),(0:Int),false) x.2.2.2.2.2.2.2.2.1.2.1 (toN (getAt ((0:Int),(0:Int)) x.2.2.2.2.2.1 (toN x.2.2.2.2.2.2.2.1)).1)).2.1 < (0:Int))) then
 some (.inr (.inl false))
 else
 bif (inb (getAt ((0:Int),(0:Int),(0:Int),false) x.2.2.2.2.2.2.2.2.1.2.1 (toN (getAt ((0:Int),(0:Int)) x.2.2.2.2.2.1 (toN x.2.2.2.2.2.2.2.1)).1)).1 (List.length x.2.2.2.2.2.2.2.2.1.1.2.2.2.2.2)) then
 bif (decide ((getAt ((0:Int),(0:Int),(0:Int),false) x.2.2.2.2.2.2.2.2.1.2.1 (toN (getAt ((0:Int),(0:Int)) x.2.2.2.2.2.1 (toN x.2.2.2.2.2.2.2.1)).1)).2.1 ≥ (((List.length (getAt ([]:List T7) x.2.2.2.2.2.2.2.2.1.1.2.2.2.2.2 (toN (getAt ((0:Int),(0:Int),(0:Int),false) x.2.2.2.2.2.2.2.2.1.2.1 (toN (getAt ((0:Int),(0:Int)) x.2.2.2.2.2.1 (toN x.2.2.2.2.2.2.2.1)).1)).1))):Nat):Int))) then
 some (.inr (.inl false))
 else
 bif (inb (getAt ((0:Int),(0:Int),(0:Int),false) x.2.2.2.2.2.2.2.2.1.2.1 (toN (getAt ((0:Int),(0:Int)) x.2.2.2.2.2.1 (toN x.2.2.2.2.2.2.2.1)).1)).1 (List.length x.2.2.2.2.2.2.2.2.1.1.2.2.2.2.2)) then
 bif (inb (getAt ((0:Int),(0:Int),(0:Int),false) x.2.2.2.2.2.2.2.2.1.2.1 (toN (getAt ((0:Int),(0:Int)) x.2.2.2.2.2.1 (toN x.2.2.2.2.2.2.2.1)).1)).2.1 (List.length (getAt ([]:List T7) x.2.2.2.2.2.2.2.2.1.1.2.2.2.2.2 (toN (getAt ((0:Int),(0:Int),(0:Int),false) x.2.2.2.2.2.2.2.2.1.2.1 (toN (getAt ((0:Int),(0:Int)) x.2.2.2.2.2.1 (toN x.2.2.2.2.2.2.2.1)).1)).1)))) then
 bif ((getAt ((0:Int),(0:Int),(0:Int)) (getAt ([]:List T7) x.2.2.2.2.2.2.2.2.1.1.2.2.2.2.2 (toN (getAt ((0:Int),(0:Int),(0:Int),false) x.2.2.2.2.2.2.2.2.1.2.1 (toN (getAt ((0:Int),(0:Int)) x.2.2.2.2.2.1 (toN x.2.2.2.2.2.2.2.1)).1)).1)) (toN (getAt ((0:Int),(0:Int),(0:Int),false) x.2.2.2.2.2.2.2.2.1.2.1 (toN (getAt ((0:Int),(0:Int)) x.2.2.2.2.2.1 (toN x.2.2.2.2.2.2.2.1)).1)).2.1)).1 == (10:Int)) then
 bif (fits ((List.length x.2.2.2.2.2.2.2.2.2)+(List.length ((getAt ((0:Int),(0:Int)) x.2.2.2.2.2.1 (toN x.2.2.2.2.2.2.2.1)) :: ([]:List (Int × Int)))))) then
 some (.inl (x.1,x.2.1,x.2.2.1,x.2.2.2.1,x.2.2.2.2.1,x.2.2.2.2.2.1,x.2.2.2.2.2.2.1,(IntKind.wrap .i64 (x.2.2.2.2.2.2.2.1+(1:Int))),x.2.2.2.2.2.2.2.2.1,(x.2.2.2.2.2.2.2.2.2++((getAt ((0:Int),(0:Int)) x.2.2.2.2.2.1 (toN x.2.2.2.2.2.2.2.1)) :: ([]:List (Int × Int))))))
 else
 none
 else
 bif ((getAt ((0:Int),(0:Int),(0:Int)) (getAt ([]:List T7) x.2.2.2.2.2.2.2.2.1.1.2.2.2.2.2 (toN (getAt ((0:Int),(0:Int),(0:Int),false) x.2.2.2.2.2.2.2.2.1.2.1 (toN (getAt ((0:Int),(0:Int)) x.2.2.2.2.2.1 (toN x.2.2.2.2.2.2.2.1)).1)).1)) (toN (getAt ((0:Int),(0:Int),(0:Int),false) x.2.2.2.2.2.2.2.2.1.2.1 (toN (getAt ((0:Int),(0:Int)) x.2.2.2.2.2.1 (toN x.2.2.2.2.2.2.2.1)).1)).2.1)).1 == (11:Int)) then
 bif (fits ((List.length x.2.2.2.2.2.2.2.2.2)+(List.length ((getAt ((0:Int),(0:Int)) x.2.2.2.2.2.1 (toN x.2.2.2.2.2.2.2.1)) :: ([]:List (Int × Int)))))) then
 some (.inl (x.1,x.2.1,x.2.2.1,x.2.2.2.1,x.2.2.2.2.1,x.2.2.2.2.2.1,x.2.2.2.2.2.2.1,(IntKind.wrap .i64 (x.2.2.2.2.2.2.2.1+(1:Int))),x.2.2.2.2.2.2.2.2.1,(x.2.2.2.2.2.2.2.2.2++((getAt ((0:Int),(0:Int)) x.2.2.2.2.2.1 (toN x.2.2.2.2.2.2.2.1)) :: ([]:List (Int × Int))))))
 else
 none
 else
 bif ((getAt ((0:Int),(0:Int),(0:Int)) (getAt ([]:List T7) x.2.2.2.2.2.2.2.2.1.1.2.2.2.2.2 (toN (getAt ((0:Int),(0:Int),(0:Int),false) x.2.2.2.2.2.2.2.2.1.2.1 (toN (getAt ((0:Int),(0:Int)) x.2.2.2.2.2.1 (toN x.2.2.2.2.2.2.2.1)).1)).1)) (toN (getAt ((0:Int),(0:Int),(0:Int),false) x.2.2.2.2.2.2.2.2.1.2.1 (toN (getAt ((0:Int),(0:Int)) x.2.2.2.2.2.1 (toN x.2.2.2.2.2.2.2.1)).1)).2.1)).1 == (0:Int)) then
 bif (fits ((List.length x.2.2.2.2.2.2.2.2.2)+(List.length ((getAt ((0:Int),(0:Int)) x.2.2.2.2.2.1 (toN x.2.2.2.2.2.2.2.1)) :: ([]:List (Int × Int)))))) then
 some (.inl (x.1,x.2.1,x.2.2.1,x.2.2.2.1,x.2.2.2.2.1,x.2.2.2.2.2.1,x.2.2.2.2.2.2.1,(IntKind.wrap .i64 (x.2.2.2.2.2.2.2.1+(1:Int))),x.2.2.2.2.2.2.2.2.1,(x.2.2.2.2.2.2.2.2.2++((getAt ((0:Int),(0:Int)) x.2.2.2.2.2.1 (toN x.2.2.2.2.2.2.2.1)) :: ([]:List (Int × Int))))))
 else
 none
 else
 some (.inl (x.1,x.2.1,x.2.2.1,x.2.2.2.1,x.2.2.2.2.1,x.2.2.2.2.2.1,x.2.2.2.2.2.2.1,(IntKind.wrap .i64 (x.2.2.2.2.2.2.2.1+(1:Int))),x.2.2.2.2.2.2.2.2.1,x.2.2.2.2.2.2.2.2.2))
 else
 none
 else
 none
 else
 none
 else
 none
 else
 none
 else
 some (.inr (.inr (x.1,x.2.1,x.2.2.1,x.2.2.2.1,x.2.2.2.2.1,x.2.2.2.2.2.2.2.2.1,x.2.2.2.2.2.2.2.2.2)))
def Zct:Ctx:={ tb:=mkTb T2.tbl,fx:=[(13,[],Zsa),(14,[],Zr0),(16,[],Zs9),(22,[],Zqz)],sum:=[],nt:=237,pin:=0,nr:=true,ys:=[] }
theorem Z8q:CSound Tryz.prog ⟨237,0,true⟩ (.loop (loopOf 15 Tryz.f5)) (Yav Zhi Zg8 (loop Z8p)) :=
 Y8e (C:=Zct) (ctxOK mixed tbl_ok rfl ⟨Z3u,Z19,Z3s,Z17,trivial⟩ trivial) (SumOK.of trivial) Zhi Zg8 rfl rfl Z8p (fun x=>by kernel_rfl)
abbrev Zhj:Shape:={ sl:=[(5,(.ptr 0 [])),(49,(.hole y0)),(50,(.hole (.int .i64))),(51,(.hole (.int .i64)))],bl:=bl_9,ts:=[y0,(.int .i64),(.int .i64),y45],pin:=0 }
abbrev Zg9:List (ETag × Shape):=[(.ret,{ sl:=sl_35,bl:=[],ts:=ts_1,pin:=0 }),(.exit 0,{ sl:=[],bl:=[],ts:=[],pin:=0 })]
def Z8r (x:T64):Option (T64 ⊕ ((Bool) ⊕ Unit)) :=
 bif (decide (x.2.2.1 < x.2.1)) then
 bif (inb x.2.2.1 (List.length x.1)) then
 (Z16 x.2.2.2).bind fun r4 =>
 bif ((((List.length r4):Nat):Int) == (0:Int)) then
 (Z3r ()).bind fun r5 =>
 some (.inr (.inl r5))
 else
 bif (decide ((((List.length x.2.2.2.1.2.2.2.2.2):Nat):Int) < (1:Int))) then
 some (.inr (.inl false))
 else
 bif (decide ((((List.length x.2.2.2.2.1):Nat):Int) < (1:Int))) then
 some (.inr (.inl false))
 else
 (loop Z8p ((getAt (0:Int) x.1 (toN x.2.2.1)),r4,x.1,x.2.1,x.2.2.1,r4,(((List.length r4):Nat):Int),(0:Int),x.2.2.2,([]:List (Int × Int)))).bind fun r5 =>
 match r5 with
 | .inl y6 =>
 some (.inr (.inl y6))
 | .inr y6 =>
 bif (decide ((((List.length y6.2.2.2.2.2.2):Nat):Int) ≥ (2:Int))) then
 bif (inb (0:Int) (List.length y6.2.2.2.2.2.2)) then
 (Z1a (y6.2.2.2.2.2.1,(getAt ((0:Int),(0:Int)) y6.2.2.2.2.2.2 (toN (0:Int))))).bind fun r7 =>
 bif (inb (1:Int) (List.length y6.2.2.2.2.2.2)) then
 (Z1a (y6.2.2.2.2.2.1,(getAt ((0:Int),(0:Int)) y6.2.2.2.2.2.2 (toN (1:Int))))).bind fun r8 =>
 bif (inb (1:Int) (List.length y6.2.2.2.2.2.2)) then
 (Z1a (r7.1,(getAt ((0:Int),(0:Int)) y6.2.2.2.2.2.2 (toN (1:Int))))).bind fun r9 =>
 bif (inb (0:Int) (List.length y6.2.2.2.2.2.2)) then
 (Z1a (r8.1,(getAt ((0:Int),(0:Int)) y6.2.2.2.2.2.2 (toN (0:Int))))).bind fun r10 =>
 bif (r7.2.2 != (0:Int)) then
 some (.inr (.inl false))
 else
 bif (r8.2.2 != (0:Int)) then
 some (.inr (.inl false))
 else
 bif (r9.2.2 != (0:Int)) then
 some (.inr (.inl false))
 else
 bif (r10.2.2 != (0:Int)) then
 some (.inr (.inl false))
 else
 (Z4l (r9.1,r10.1)).bind fun r11 =>
 bif (Bool.not r11) then
 some (.inr (.inl false))
 else
 (Z4j (r7.2.1,r10.2.1)).bind fun r12 =>
 bif (Bool.not r12) then
 some (.inr (.inl false))
 else
 (Z4j (r8.2.1,r9.2.1)).bind fun r13 =>
 bif (Bool.not r13) then
 some (.inr (.inl false))
 else
 (Z3x (y6.2.1,y6.1)).bind fun r14 =>
 (Z1a (y6.2.2.2.2.2.1,r14)).bind fun r15 =>
 bif (r15.2.2 != (0:Int)) then
 some (.inr (.inl false))
 else
 some (.inl (y6.2.2.1,y6.2.2.2.1,(IntKind.wrap .i64 (y6.2.2.2.2.1+(1:Int))),r15.1))
 else
 none
 else
 none
 else
 none
 else
 none
 else
 (Z3x (y6.2.1,y6.1)).bind fun r7 =>
 (Z1a (y6.2.2.2.2.2.1,r7)).bind fun r8 =>
 bif (r8.2.2 != (0:Int)) then
 some (.inr (.inl false))
 else
 some (.inl (y6.2.2.1,y6.2.2.2.1,(IntKind.wrap .i64 (y6.2.2.2.2.1+(1:Int))),r8.1))
 else
 none
 else
 some (.inr (.inr ()))
def Zcu:Ctx:={ tb:=mkTb T2.tbl,fx:=[(13,[],Zsa),(14,[],Zr0),(16,[],Zs9),(22,[],Zqz),(23,[],Zr1),(17,[],Zso),(19,[],Zsn),(24,[],Zsc)],sum:=[(0,15,Yav Zhi Zg8 (loop Z8p))],nt:=237,pin:=0,nr:=true,ys:=[] }
theorem Z8s:CSound Tryz.prog ⟨237,0,true⟩ (.loop (loopOf 6 Tryz.f5)) (Yav Zhj Zg9 (loop Z8r)) :=
 Y8e (C:=Zcu) (ctxOK mixed tbl_ok rfl ⟨Z3u,Z19,Z3s,Z17,Z1b,Z4m,Z4k,Z3y,trivial⟩ trivial) (SumOK.of ⟨(Yax (d:=.loop (loopOf 15 Tryz.f5)) (by kernel_rfl) Z8q),trivial⟩) Zhj Zg9 rfl rfl Z8r (fun x=>by kernel_rfl)
def F_plaitlaw12_MachineApart (x:(T47 × List Int)):Option (Bool) :=
 (Z3t x.1).bind fun r1 =>
 (Z18 r1).bind fun r2 =>
 bif (r2.2.2 != (0:Int)) then
 (Z3r ()).bind fun r3 =>
 bif r3 then
 some (r2.2.2 == (1:Int))
 else
 some false
 else
 bif (sub3 (0:Int) (Min.min (((List.length x.2):Nat):Int) (80:Int)) (List.length x.2)) then
 (loop Z8r ((cut x.2 (toN (0:Int)) ((toN (Min.min (((List.length x.2):Nat):Int) (80:Int))) - (toN (0:Int)))),(((List.length (cut x.2 (toN (0:Int)) ((toN (Min.min (((List.length x.2):Nat):Int) (80:Int))) - (toN (0:Int))))):Nat):Int),(0:Int),r2.1)).bind fun r3 =>
 match r3 with
 | .inl y4 =>
 some y4
 | .inr y4 =>
 (Z3r ()).bind fun r5 =>
 some r5
 else
 none
def Zcs:Ctx:={ tb:=mkTb T2.tbl,fx:=[(13,[],Zsa),(14,[],Zr0),(16,[],Zs9),(22,[],Zqz),(23,[],Zr1),(17,[],Zso),(19,[],Zsn),(24,[],Zsc)],sum:=[(0,15,Yav Zhi Zg8 (loop Z8p)),(0,6,Yav Zhj Zg9 (loop Z8r))],nt:=237,pin:=0,nr:=true,ys:=[] }
theorem F_plaitlaw12_MachineApart_ok:Sound Tryz.prog 5 (Spec.pure [y39,y0] [.bool] F_plaitlaw12_MachineApart) :=
 Sound.pure (C:=Zcs) (fn:=Tryz.f5) (by kernel_rfl) (c:=bodyOf Tryz.f5) (by kernel_rfl) (by decide) (ctxOK mixed tbl_ok rfl ⟨Z3u,Z19,Z3s,Z17,Z1b,Z4m,Z4k,Z3y,trivial⟩) (SumOK.of ⟨(Yax (d:=.loop (loopOf 15 Tryz.f5)) (by kernel_rfl) Z8q),(Yax (d:=.loop (loopOf 6 Tryz.f5)) (by kernel_rfl) Z8s),trivial⟩) (by kernel_rfl) rfl _ _ (by decide) _ (fun x=>by kernel_rfl)
end
end Go.Proofs.YthdlpkdojipfhaaGreat.VX.VxM_M
set_option linter.unusedVariables false
set_option maxRecDepth 100000
namespace Go.Proofs.YthdlpkdojipfhaaGreat.VX.VxM_M
open Go.Proofs Go.Proofs.YthdlpkdojipfhaaGreat.VX.T2
noncomputable section
end
end Go.Proofs.YthdlpkdojipfhaaGreat.VX.VxM_M

