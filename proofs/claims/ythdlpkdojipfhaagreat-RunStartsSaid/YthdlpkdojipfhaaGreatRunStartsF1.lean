/- Laid for the law RunStarts. -/
import Derived.Test.YthdlpkdojipfhaaGreatRunStartsF0
set_option linter.unusedVariables false
set_option maxRecDepth 100000
namespace Go.Proofs.YthdlpkdojipfhaaGreat.VX.VxM_M
open Go.Proofs Go.Proofs.YthdlpkdojipfhaaGreat.VX.T2
noncomputable section
abbrev Zgc:Shape:={ sl:=sl_27,bl:=[],ts:=[y40,y5],pin:=0 }
abbrev Zk5:Shape:={ sl:=sl_28,bl:=[],ts:=[y40,y30,(.int .i64)],pin:=0 }
def Zc (x:T45):Option T48 :=
 (Za x.1).bind fun r18 =>
 bif (Bool.not r18) then
 some (((0:Int),false,((0:Int),(0:Int),([]:List Int),(0:Int)),(0:Int),(0:Int),([]:List T7),([]:List T7)),((0:Int),(0:Int),((0:Int),(0:Int),(0:Int)),(0:Int)),(1:Int))
 else
 (Ze x.2).bind fun r19 =>
 bif (Bool.not r19) then
 some (((0:Int),false,((0:Int),(0:Int),([]:List Int),(0:Int)),(0:Int),(0:Int),([]:List T7),([]:List T7)),((0:Int),(0:Int),((0:Int),(0:Int),(0:Int)),(0:Int)),(1:Int))
 else
 (Zq (x.1.2.2.2.2.2.2,x.1,x.2.1)).bind fun r20 =>
 (Zl r20.2).bind fun r21 =>
 bif r21.1 then
 some (x.1,((0:Int),(0:Int),((Int.negSucc 0),(0:Int),(0:Int)),(0:Int)),(0:Int))
 else
 bif r20.2.1.2.1 then
 some (x.1,((3:Int),(0:Int),((Int.negSucc 0),(0:Int),(0:Int)),(0:Int)),(0:Int))
 else
 bif (r20.1.1 != (Int.negSucc 0)) then
 bif (r20.2.1.2.2.2.1 == (1048576:Int)) then
 some (((0:Int),false,((0:Int),(0:Int),([]:List Int),(0:Int)),(0:Int),(0:Int),([]:List T7),([]:List T7)),((0:Int),(0:Int),((0:Int),(0:Int),(0:Int)),(0:Int)),(5:Int))
 else
 bif (r20.1.1 != (Int.negSucc 0)) then
 (Zo (r20.1.1,r20.2)).bind fun r22 =>
 (Zs r22).bind fun r23 =>
 some (r23.2.1,((1:Int),r23.1,r20.1,r23.1),(0:Int))
 else
 (Zi r20.2).bind fun r22 =>
 bif (Bool.not r22.1) then
 (Zw r20.2).bind fun r23 =>
 some (r23.2.1,((1:Int),r23.1,r20.1,(0:Int)),(0:Int))
 else
 (Z7j (r20.2.1.2.2.2.2.2.1,x.2)).bind fun r23 =>
 bif (r23.2 != (0:Int)) then
 some (((0:Int),false,((0:Int),(0:Int),([]:List Int),(0:Int)),(0:Int),(0:Int),([]:List T7),([]:List T7)),((0:Int),(0:Int),((0:Int),(0:Int),(0:Int)),(0:Int)),r23.2)
 else
 some ((r20.2.1.1,r20.2.1.2.1,r20.2.1.2.2.1,r20.2.1.2.2.2.1,r20.2.1.2.2.2.2.1,r23.1,r20.2.1.2.2.2.2.2.2),((0:Int),(0:Int),r20.1,(0:Int)),(0:Int))
 else
 (Zi r20.2).bind fun r22 =>
 bif (Bool.not r22.1) then
 bif (r20.2.1.2.2.2.1 == (1048576:Int)) then
 some (((0:Int),false,((0:Int),(0:Int),([]:List Int),(0:Int)),(0:Int),(0:Int),([]:List T7),([]:List T7)),((0:Int),(0:Int),((0:Int),(0:Int),(0:Int)),(0:Int)),(5:Int))
 else
 bif (r20.1.1 != (Int.negSucc 0)) then
 (Zo (r20.1.1,r20.2)).bind fun r23 =>
 (Zs r23).bind fun r24 =>
 some (r24.2.1,((1:Int),r24.1,r20.1,r24.1),(0:Int))
 else
 (Zi r20.2).bind fun r23 =>
 bif (Bool.not r23.1) then
 (Zw r20.2).bind fun r24 =>
 some (r24.2.1,((1:Int),r24.1,r20.1,(0:Int)),(0:Int))
 else
 (Z7j (r20.2.1.2.2.2.2.2.1,x.2)).bind fun r24 =>
 bif (r24.2 != (0:Int)) then
 some (((0:Int),false,((0:Int),(0:Int),([]:List Int),(0:Int)),(0:Int),(0:Int),([]:List T7),([]:List T7)),((0:Int),(0:Int),((0:Int),(0:Int),(0:Int)),(0:Int)),r24.2)
 else
 some ((r20.2.1.1,r20.2.1.2.1,r20.2.1.2.2.1,r20.2.1.2.2.2.1,r20.2.1.2.2.2.2.1,r24.1,r20.2.1.2.2.2.2.2.2),((0:Int),(0:Int),r20.1,(0:Int)),(0:Int))
 else
 bif (r20.1.1 != (Int.negSucc 0)) then
 (Zo (r20.1.1,r20.2)).bind fun r23 =>
 (Zs r23).bind fun r24 =>
 some (r24.2.1,((1:Int),r24.1,r20.1,r24.1),(0:Int))
 else
 (Zi r20.2).bind fun r23 =>
 bif (Bool.not r23.1) then
 (Zw r20.2).bind fun r24 =>
 some (r24.2.1,((1:Int),r24.1,r20.1,(0:Int)),(0:Int))
 else
 (Z7j (r20.2.1.2.2.2.2.2.1,x.2)).bind fun r24 =>
 bif (r24.2 != (0:Int)) then
 some (((0:Int),false,((0:Int),(0:Int),([]:List Int),(0:Int)),(0:Int),(0:Int),([]:List T7),([]:List T7)),((0:Int),(0:Int),((0:Int),(0:Int),(0:Int)),(0:Int)),r24.2)
 else
 some ((r20.2.1.1,r20.2.1.2.1,r20.2.1.2.2.1,r20.2.1.2.2.2.1,r20.2.1.2.2.2.2.1,r24.1,r20.2.1.2.2.2.2.2.2),((0:Int),(0:Int),r20.1,(0:Int)),(0:Int))
abbrev Zny:=Spec.shp Zgc Zk5 Zc
def Z9u:Ctx:={ tb:=mkTb T2.tbl,fx:=[(112,[],Znx),(206,[],Znz),(167,[],Zo4),(165,[],Spec.shpR Zgg Zk9 Zl),(205,[],Zo3),(209,[],Zo5),(166,[],Spec.shpR Zgf Zk8 Zi),(208,[],Zo7),(171,[],Zrf)],sum:=[],nt:=128,pin:=0,nr:=true,ys:=[] }
theorem Zd:Sound Tryz.prog 170 (Zny) :=
 Sound.shp (C:=Z9u) (fn:=Tryz.f170) (by kernel_rfl) (c:=bodyOf Tryz.f170) (by kernel_rfl) (by decide) (ctxOK mixed tbl_ok rfl ⟨Zb,Zf,Zr,Zn,Zp,Zt,Zk,Zx,Z7k,trivial⟩ trivial) (SumOK.of trivial) (by kernel_rfl) Zgc Zk5 rfl (by decide) (by decide) rfl (by decide) rfl Zc (fun x=>by kernel_rfl)
abbrev Zip:Shape:={ sl:=[(0,(.hole y21))],bl:=[],ts:=[y21],pin:=0 }
abbrev Zmi:Shape:={ sl:=[(0,(.hole y21)),(1,(.hole (.int .i64))),(2,(.hole (.int .i64)))],bl:=[],ts:=[y21,(.int .i64),(.int .i64)],pin:=0 }
def Z57 (x:(T16)):Option (T16 × Int × Int) :=
 (Z5b x).bind fun r25 =>
 bif (Bool.not r25) then
 some (((0:Int),(0:Int),([]:List Int),(0:Int)),(0:Int),(1:Int))
 else
 bif (x.2.2.2 == (0:Int)) then
 some (((0:Int),(0:Int),([]:List Int),(0:Int)),(0:Int),(4:Int))
 else
 (Z5h (x,(0:Int))).bind fun r26 =>
 bif (inb r26 (List.length x.2.2.1)) then
 (Z5h (x,(1:Int))).bind fun r27 =>
 some ((x.1,r27,x.2.2.1,(IntKind.wrap .i64 (x.2.2.2 - (1:Int)))),(getAt (0:Int) x.2.2.1 (toN r26)),(0:Int))
 else
 none
abbrev Zqa:=Spec.shp Zip Zmi Z57
def Zcq:Ctx:={ tb:=mkTb T2.tbl,fx:=[(196,[],Zqc),(232,[],Zqf)],sum:=[],nt:=34,pin:=0,nr:=true,ys:=[] }
theorem Z58:Sound Tryz.prog 234 (Zqa) :=
 Sound.shp (C:=Zcq) (fn:=Tryz.f234) (by kernel_rfl) (c:=bodyOf Tryz.f234) (by kernel_rfl) (by decide) (ctxOK mixed tbl_ok rfl ⟨Z5c,Z5k,trivial⟩ trivial) (SumOK.of trivial) (by kernel_rfl) Zip Zmi rfl (by decide) (by decide) rfl (by decide) rfl Z57 (fun x=>by kernel_rfl)
abbrev Zgk:Shape:={ sl:=sl_15,bl:=bl_12,ts:=[y42],pin:=0 }
abbrev Zkd:Shape:={ sl:=sl_2,bl:=bl_12,ts:=[(.int .i64),y42],pin:=1 }
def Zu (x:(T46)):Option (Int × T46) :=
 (Z57 x.1.2.2.1).bind fun r24 =>
 some (r24.2.1,(x.1.1,x.1.2.1,r24.1,x.1.2.2.2.1,(IntKind.wrap .i64 (x.1.2.2.2.2.1+(1:Int))),x.1.2.2.2.2.2),x.2)
abbrev Zo6:=Spec.shp Zgk Zkd Zu
def Za3:Ctx:={ tb:=mkTb T2.tbl,fx:=[(234,[],Zqa)],sum:=[],nt:=28,pin:=1,nr:=true,ys:=[] }
theorem Zv:Sound Tryz.prog 207 (Zo6) :=
 Sound.shp (C:=Za3) (fn:=Tryz.f207) (by kernel_rfl) (c:=bodyOf Tryz.f207) (by kernel_rfl) (by decide) (ctxOK mixed tbl_ok rfl ⟨Z58,trivial⟩ trivial) (SumOK.of trivial) (by kernel_rfl) Zgk Zkd rfl (by decide) (by decide) rfl (by decide) rfl Zu (fun x=>by kernel_rfl)
abbrev Zga:Shape:={ sl:=sl_27,bl:=[],ts:=[y40,y5],pin:=0 }
abbrev Zk3:Shape:={ sl:=sl_28,bl:=[],ts:=[y40,y30,(.int .i64)],pin:=0 }
def Z8 (x:T45):Option T48 :=
 (Za x.1).bind fun r18 =>
 bif (Bool.not r18) then
 some (((0:Int),false,((0:Int),(0:Int),([]:List Int),(0:Int)),(0:Int),(0:Int),([]:List T7),([]:List T7)),((0:Int),(0:Int),((0:Int),(0:Int),(0:Int)),(0:Int)),(1:Int))
 else
 (Ze x.2).bind fun r19 =>
 bif (Bool.not r19) then
 some (((0:Int),false,((0:Int),(0:Int),([]:List Int),(0:Int)),(0:Int),(0:Int),([]:List T7),([]:List T7)),((0:Int),(0:Int),((0:Int),(0:Int),(0:Int)),(0:Int)),(1:Int))
 else
 (Zq (x.1.2.2.2.2.2.1,x.1,x.2.1)).bind fun r20 =>
 bif (r20.1.1 != (Int.negSucc 0)) then
 bif (r20.2.1.2.2.2.1 == (1048576:Int)) then
 some (((0:Int),false,((0:Int),(0:Int),([]:List Int),(0:Int)),(0:Int),(0:Int),([]:List T7),([]:List T7)),((0:Int),(0:Int),((0:Int),(0:Int),(0:Int)),(0:Int)),(5:Int))
 else
 (Zo (r20.1.1,r20.2)).bind fun r21 =>
 (Zl r21).bind fun r22 =>
 bif r22.1 then
 some (x.1,((0:Int),(0:Int),r20.1,(0:Int)),(0:Int))
 else
 bif (decide (r21.1.2.2.1.2.2.2 > (0:Int))) then
 (Zu r21).bind fun r23 =>
 bif (r20.1.1 != (Int.negSucc 0)) then
 (Zw r23.2).bind fun r24 =>
 some (r24.2.1,((1:Int),r23.1,r20.1,r24.1),(0:Int))
 else
 some (r23.2.1,((1:Int),r23.1,r20.1,(0:Int)),(0:Int))
 else
 bif (r20.1.1 != (Int.negSucc 0)) then
 (Zs r21).bind fun r23 =>
 some (r23.2.1,((1:Int),r23.1,r20.1,r23.1),(0:Int))
 else
 bif r21.1.2.1 then
 some (x.1,((2:Int),(0:Int),r20.1,(0:Int)),(0:Int))
 else
 (Z7j (r21.1.2.2.2.2.2.2,x.2)).bind fun r23 =>
 bif (r23.2 != (0:Int)) then
 some (((0:Int),false,((0:Int),(0:Int),([]:List Int),(0:Int)),(0:Int),(0:Int),([]:List T7),([]:List T7)),((0:Int),(0:Int),((0:Int),(0:Int),(0:Int)),(0:Int)),r23.2)
 else
 some ((r21.1.1,r21.1.2.1,r21.1.2.2.1,r21.1.2.2.2.1,r21.1.2.2.2.2.1,r21.1.2.2.2.2.2.1,r23.1),((0:Int),(0:Int),r20.1,(0:Int)),(0:Int))
 else
 (Zl r20.2).bind fun r21 =>
 bif r21.1 then
 some (x.1,((0:Int),(0:Int),r20.1,(0:Int)),(0:Int))
 else
 bif (decide (r20.2.1.2.2.1.2.2.2 > (0:Int))) then
 (Zu r20.2).bind fun r22 =>
 bif (r20.1.1 != (Int.negSucc 0)) then
 (Zw r22.2).bind fun r23 =>
 some (r23.2.1,((1:Int),r22.1,r20.1,r23.1),(0:Int))
 else
 some (r22.2.1,((1:Int),r22.1,r20.1,(0:Int)),(0:Int))
 else
 bif (r20.1.1 != (Int.negSucc 0)) then
 (Zs r20.2).bind fun r22 =>
 some (r22.2.1,((1:Int),r22.1,r20.1,r22.1),(0:Int))
 else
 bif r20.2.1.2.1 then
 some (x.1,((2:Int),(0:Int),r20.1,(0:Int)),(0:Int))
 else
 (Z7j (r20.2.1.2.2.2.2.2.2,x.2)).bind fun r22 =>
 bif (r22.2 != (0:Int)) then
 some (((0:Int),false,((0:Int),(0:Int),([]:List Int),(0:Int)),(0:Int),(0:Int),([]:List T7),([]:List T7)),((0:Int),(0:Int),((0:Int),(0:Int),(0:Int)),(0:Int)),r22.2)
 else
 some ((r20.2.1.1,r20.2.1.2.1,r20.2.1.2.2.1,r20.2.1.2.2.2.1,r20.2.1.2.2.2.2.1,r20.2.1.2.2.2.2.2.1,r22.1),((0:Int),(0:Int),r20.1,(0:Int)),(0:Int))
abbrev Znw:=Spec.shp Zga Zk3 Z8
def Z9s:Ctx:={ tb:=mkTb T2.tbl,fx:=[(112,[],Znx),(206,[],Znz),(167,[],Zo4),(205,[],Zo3),(165,[],Spec.shpR Zgg Zk9 Zl),(207,[],Zo6),(208,[],Zo7),(209,[],Zo5),(171,[],Zrf)],sum:=[],nt:=130,pin:=0,nr:=true,ys:=[] }
theorem Z9:Sound Tryz.prog 169 (Znw) :=
 Sound.shp (C:=Z9s) (fn:=Tryz.f169) (by kernel_rfl) (c:=bodyOf Tryz.f169) (by kernel_rfl) (by decide) (ctxOK mixed tbl_ok rfl ⟨Zb,Zf,Zr,Zp,Zn,Zv,Zx,Zt,Z7k,trivial⟩ trivial) (SumOK.of trivial) (by kernel_rfl) Zga Zk3 rfl (by decide) (by decide) rfl (by decide) rfl Z8 (fun x=>by kernel_rfl)
abbrev Zhd:Shape:={ sl:=sl_29,bl:=bl_2,ts:=[y5,(.int .i64),.bool,y39,y4,y18,y41,y19,y26,y27],pin:=0 }
abbrev Zl6:Shape:={ sl:=[(0,(.hole y30))],bl:=bl_2,ts:=[y30,y39,y4,y18,y41,y19,y26,y27],pin:=1 }
def Z2g (x:(T7 × Int × Bool × T47 × (Int × Int) × List (T17) × List T43 × List (T18) × List T29 × List (T20))):Option ((Int × T23) × T47 × (Int × Int) × List (T17) × List T43 × List (T18) × List T29 × List (T20)) :=
 bif x.2.2.1 then
 bif (inb x.2.1 (List.length x.2.2.2.2.2.2.1)) then
 (Zc ((getAt ((0:Int),false,((0:Int),(0:Int),([]:List Int),(0:Int)),(0:Int),(0:Int),([]:List T7),([]:List T7)) x.2.2.2.2.2.2.1 (toN x.2.1)),x.1)).bind fun r17 =>
 bif (inb x.2.1 (List.length x.2.2.2.2.2.2.1)) then
 some (r17.2.1,x.2.2.2.1,x.2.2.2.2.1,x.2.2.2.2.2.1,(List.set x.2.2.2.2.2.2.1 (toN x.2.1) r17.1),x.2.2.2.2.2.2.2.1,x.2.2.2.2.2.2.2.2.1,x.2.2.2.2.2.2.2.2.2)
 else
 none
 else
 none
 else
 bif (inb x.2.1 (List.length x.2.2.2.2.2.2.1)) then
 (Z8 ((getAt ((0:Int),false,((0:Int),(0:Int),([]:List Int),(0:Int)),(0:Int),(0:Int),([]:List T7),([]:List T7)) x.2.2.2.2.2.2.1 (toN x.2.1)),x.1)).bind fun r17 =>
 bif (inb x.2.1 (List.length x.2.2.2.2.2.2.1)) then
 some (r17.2.1,x.2.2.2.1,x.2.2.2.2.1,x.2.2.2.2.2.1,(List.set x.2.2.2.2.2.2.1 (toN x.2.1) r17.1),x.2.2.2.2.2.2.2.1,x.2.2.2.2.2.2.2.2.1,x.2.2.2.2.2.2.2.2.2)
 else
 none
 else
 none
abbrev Zoz:=Spec.shp Zhd Zl6 Z2g
def Zb4:Ctx:={ tb:=mkTb T2.tbl,fx:=[(170,[],Zny),(169,[],Znw)],sum:=[],nt:=38,pin:=1,nr:=true,ys:=[] }
theorem Z2h:Sound Tryz.prog 124 (Zoz) :=
 Sound.shp (C:=Zb4) (fn:=Tryz.f124) (by kernel_rfl) (c:=bodyOf Tryz.f124) (by kernel_rfl) (by decide) (ctxOK mixed tbl_ok rfl ⟨Zd,Z9,trivial⟩ trivial) (SumOK.of trivial) (by kernel_rfl) Zhd Zl6 rfl (by decide) (by decide) rfl (by decide) rfl Z2g (fun x=>by kernel_rfl)
abbrev Zhr:Shape:={ sl:=sl_25,bl:=bl_2,ts:=ts_10,pin:=0 }
abbrev Zlk:Shape:={ sl:=[],bl:=bl_2,ts:=ts_11,pin:=1 }
def Z39 (x:T58):Option T57 :=
 bif (inb x.1 (List.length x.2.2.2.1)) then
 some (x.2.1,x.2.2.1,(List.set x.2.2.2.1 (toN x.1) ((getAt ((0:Int),(0:Int),(0:Int),false) x.2.2.2.1 (toN x.1)).1,(getAt ((0:Int),(0:Int),(0:Int),false) x.2.2.2.1 (toN x.1)).2.1,(1:Int),(getAt ((0:Int),(0:Int),(0:Int),false) x.2.2.2.1 (toN x.1)).2.2.2)),x.2.2.2.2.1,x.2.2.2.2.2.1,x.2.2.2.2.2.2.1,x.2.2.2.2.2.2.2)
 else
 none
abbrev Zpd:=Spec.shp Zhr Zlk Z39
def Zbk:Ctx:={ tb:=mkTb T2.tbl,fx:=[],sum:=[],nt:=12,pin:=1,nr:=true,ys:=[] }
theorem Z3a:Sound Tryz.prog 125 (Zpd) :=
 Sound.shp (C:=Zbk) (fn:=Tryz.f125) (by kernel_rfl) (c:=bodyOf Tryz.f125) (by kernel_rfl) (by decide) (ctxOK mixed tbl_ok rfl trivial trivial) (SumOK.of trivial) (by kernel_rfl) Zhr Zlk rfl (by decide) (by decide) rfl (by decide) rfl Z39 (fun x=>by kernel_rfl)
abbrev Zg7:Shape:={ sl:=sl_13,bl:=[],ts:=[y40,(.int .i64)],pin:=0 }
abbrev Zk0:Shape:={ sl:=sl_13,bl:=[],ts:=[y40,(.int .i64)],pin:=0 }
def Z2 (x:T46):Option T46 :=
 (Za x.1).bind fun r23 =>
 bif (Bool.not r23) then
 some (((0:Int),false,((0:Int),(0:Int),([]:List Int),(0:Int)),(0:Int),(0:Int),([]:List T7),([]:List T7)),(1:Int))
 else
 bif (decide (x.2 < (0:Int))) then
 some (((0:Int),false,((0:Int),(0:Int),([]:List Int),(0:Int)),(0:Int),(0:Int),([]:List T7),([]:List T7)),(1:Int))
 else
 (Zo (x.2,x.1,x.2)).bind fun r24 =>
 some (r24.1,(0:Int))
abbrev Znt:=Spec.shp Zg7 Zk0 Z2
def Z9p:Ctx:={ tb:=mkTb T2.tbl,fx:=[(112,[],Znx),(205,[],Zo3)],sum:=[],nt:=26,pin:=0,nr:=true,ys:=[] }
theorem Z3:Sound Tryz.prog 168 (Znt) :=
 Sound.shp (C:=Z9p) (fn:=Tryz.f168) (by kernel_rfl) (c:=bodyOf Tryz.f168) (by kernel_rfl) (by decide) (ctxOK mixed tbl_ok rfl ⟨Zb,Zp,trivial⟩ trivial) (SumOK.of trivial) (by kernel_rfl) Zg7 Zk0 rfl (by decide) (by decide) rfl (by decide) rfl Z2 (fun x=>by kernel_rfl)
abbrev Zfh:Shape:={ sl:=[(0,(.ptr 0 [])),(6,(.ptr 1 [])),(98,(.sl 2)),(99,(.hole (.int .i64))),(100,(.hole (.int .i64)))],bl:=[.var (.pr (.pr (.hole y39) (.pr (.sl 3) (.pr (.sl 2) (.pr (.sl 4) (.pr (.sl 5) (.hole y4)))))) (.sl 6)),.var (.hole y5),.row y40,.row y12,.row y15,.row y23,.row y24],ts:=[(.int .i64),(.int .i64),y39,y4,y5,y41,y18,y19,y26,y27],pin:=1 }
abbrev Zel:List (ETag × Shape):=[(.exit 1,{ sl:=[],bl:=bl_2,ts:=ts_11,pin:=1 })]
def Z87 (x:(Int × Int × T47 × (Int × Int) × T7 × List T43 × List (T17) × List (T18) × List T29 × List (T20))):Option ((Int × Int × T47 × (Int × Int) × T7 × List T43 × List (T17) × List (T18) × List T29 × List (T20)) ⊕ (T57)) :=
 bif (decide (x.2.1 < x.1)) then
 bif (inb x.2.1 (List.length x.2.2.2.2.2.1)) then
 (Z2 ((getAt ((0:Int),false,((0:Int),(0:Int),([]:List Int),(0:Int)),(0:Int),(0:Int),([]:List T7),([]:List T7)) x.2.2.2.2.2.1 (toN x.2.1)),x.2.2.2.2.1.1)).bind fun r22 =>
 bif (inb x.2.1 (List.length x.2.2.2.2.2.1)) then
 some (.inl (x.1,(IntKind.wrap .i64 (x.2.1+(1:Int))),x.2.2.1,x.2.2.2.1,x.2.2.2.2.1,(List.set x.2.2.2.2.2.1 (toN x.2.1) r22.1),x.2.2.2.2.2.2.1,x.2.2.2.2.2.2.2.1,x.2.2.2.2.2.2.2.2.1,x.2.2.2.2.2.2.2.2.2))
 else
 none
 else
 none
 else
 some (.inr (x.2.2.1,x.2.2.2.1,x.2.2.2.2.2.2.1,x.2.2.2.2.2.1,x.2.2.2.2.2.2.2.1,x.2.2.2.2.2.2.2.2.1,x.2.2.2.2.2.2.2.2.2))
def Zau:Ctx:={ tb:=mkTb T2.tbl,fx:=[(78,[],Zou),(40,[],Zpb),(120,[],Zos),(168,[],Znt)],sum:=[],nt:=120,pin:=1,nr:=true,ys:=[] }
theorem Z88:CSound Tryz.prog ⟨120,1,true⟩ (.loop (loopOf 13 Tryz.f123)) (Yau Zfh Zel (loop Z87)) :=
 Y8b (C:=Zau) (ctxOK mixed tbl_ok rfl ⟨Z27,Z36,Z23,Z3,trivial⟩ trivial) (SumOK.of trivial) Zfh Zel rfl rfl Z87 (fun x=>by kernel_rfl)
abbrev Zh4:Shape:={ sl:=[(0,(.ptr 0 [])),(1,(.hole y5)),(2,(.hole (.int .i64))),(3,(.hole (.int .i64))),(4,(.hole (.int .i64)))],bl:=bl_2,ts:=[y5,(.int .i64),(.int .i64),(.int .i64),y39,y4,y18,y41,y19,y26,y27],pin:=0 }
abbrev Zkx:Shape:={ sl:=[],bl:=bl_2,ts:=ts_11,pin:=1 }
def Z1y (x:(T7 × Int × Int × Int × T47 × (Int × Int) × List (T17) × List T43 × List (T18) × List T29 × List (T20))):Option T57 :=
 (Z26 (x.1.1,x.2.2.2.2.1,x.2.2.2.2.2.1,x.2.2.2.2.2.2.1,x.2.2.2.2.2.2.2.1,x.2.2.2.2.2.2.2.2.1,x.2.2.2.2.2.2.2.2.2.1,x.2.2.2.2.2.2.2.2.2.2)).bind fun r18 =>
 bif (r18.1.1 == (1:Int)) then
 (Z35 (x.1.1,(3:Int),x.2.1,x.2.2.1,x.1.2.2,r18.2.1,r18.2.2.1,r18.2.2.2.1,r18.2.2.2.2.1,r18.2.2.2.2.2.1,r18.2.2.2.2.2.2.1,r18.2.2.2.2.2.2.2)).bind fun r19 =>
 (Z22 (x.1.1,r19.2.1,r19.2.2.1,r19.2.2.2.1,r19.2.2.2.2.1,r19.2.2.2.2.2.1,r19.2.2.2.2.2.2.1,r19.2.2.2.2.2.2.2)).bind fun r20 =>
 (loop Z87 ((((List.length r20.2.2.2.1):Nat):Int),(0:Int),r20.1,r20.2.1,x.1,r20.2.2.2.1,r20.2.2.1,r20.2.2.2.2.1,r20.2.2.2.2.2.1,r20.2.2.2.2.2.2)).bind fun r21 =>
 some (r21.1,r21.2.1,r21.2.2.1,r21.2.2.2.1,r21.2.2.2.2.1,r21.2.2.2.2.2.1,r21.2.2.2.2.2.2)
 else
 bif (r18.1.1 == (4:Int)) then
 bif (inb r18.1.2.1 (List.length r18.2.1.2.2.2.2.1)) then
 bif (inb x.1.2.1 (List.length (getAt (([]:List T0),false) r18.2.1.2.2.2.2.1 (toN r18.1.2.1)).1)) then
 bif (getAt (false,(0:Int)) (getAt (([]:List T0),false) r18.2.1.2.2.2.2.1 (toN r18.1.2.1)).1 (toN x.1.2.1)).1 then
 (Z35 (x.1.1,(3:Int),x.2.1,x.2.2.1,x.1.2.2,r18.2.1,r18.2.2.1,r18.2.2.2.1,r18.2.2.2.2.1,r18.2.2.2.2.2.1,r18.2.2.2.2.2.2.1,r18.2.2.2.2.2.2.2)).bind fun r19 =>
 (Z22 (x.1.1,r19.2.1,r19.2.2.1,r19.2.2.2.1,r19.2.2.2.2.1,r19.2.2.2.2.2.1,r19.2.2.2.2.2.2.1,r19.2.2.2.2.2.2.2)).bind fun r20 =>
 (loop Z87 ((((List.length r20.2.2.2.1):Nat):Int),(0:Int),r20.1,r20.2.1,x.1,r20.2.2.2.1,r20.2.2.1,r20.2.2.2.2.1,r20.2.2.2.2.2.1,r20.2.2.2.2.2.2)).bind fun r21 =>
 some (r21.1,r21.2.1,r21.2.2.1,r21.2.2.2.1,r21.2.2.2.2.1,r21.2.2.2.2.2.1,r21.2.2.2.2.2.2)
 else
 bif (x.2.2.2.1 == (2:Int)) then
 (Z35 (x.1.1,(6:Int),x.2.1,(0:Int),x.1.2.2,r18.2.1,r18.2.2.1,r18.2.2.2.1,r18.2.2.2.2.1,r18.2.2.2.2.2.1,r18.2.2.2.2.2.2.1,r18.2.2.2.2.2.2.2)).bind fun r19 =>
 bif (inb x.1.1 (List.length r19.2.2.2.1)) then
 (Z22 (x.1.1,r19.2.1,r19.2.2.1,(List.set r19.2.2.2.1 (toN x.1.1) ((getAt ((0:Int),(0:Int),(0:Int),false) r19.2.2.2.1 (toN x.1.1)).1,(getAt ((0:Int),(0:Int),(0:Int),false) r19.2.2.2.1 (toN x.1.1)).2.1,(getAt ((0:Int),(0:Int),(0:Int),false) r19.2.2.2.1 (toN x.1.1)).2.2.1,true)),r19.2.2.2.2.1,r19.2.2.2.2.2.1,r19.2.2.2.2.2.2.1,r19.2.2.2.2.2.2.2)).bind fun r20 =>
 (loop Z87 ((((List.length r20.2.2.2.1):Nat):Int),(0:Int),r20.1,r20.2.1,x.1,r20.2.2.2.1,r20.2.2.1,r20.2.2.2.2.1,r20.2.2.2.2.2.1,r20.2.2.2.2.2.2)).bind fun r21 =>
 some (r21.1,r21.2.1,r21.2.2.1,r21.2.2.2.1,r21.2.2.2.2.1,r21.2.2.2.2.2.1,r21.2.2.2.2.2.2)
 else
 none
 else
 (Z35 (x.1.1,(5:Int),x.2.1,x.2.2.1,x.1.2.2,r18.2.1,r18.2.2.1,r18.2.2.2.1,r18.2.2.2.2.1,r18.2.2.2.2.2.1,r18.2.2.2.2.2.2.1,r18.2.2.2.2.2.2.2)).bind fun r19 =>
 bif (inb x.1.1 (List.length r19.2.2.2.1)) then
 (Z22 (x.1.1,r19.2.1,r19.2.2.1,(List.set r19.2.2.2.1 (toN x.1.1) ((getAt ((0:Int),(0:Int),(0:Int),false) r19.2.2.2.1 (toN x.1.1)).1,(getAt ((0:Int),(0:Int),(0:Int),false) r19.2.2.2.1 (toN x.1.1)).2.1,(getAt ((0:Int),(0:Int),(0:Int),false) r19.2.2.2.1 (toN x.1.1)).2.2.1,false)),r19.2.2.2.2.1,r19.2.2.2.2.2.1,r19.2.2.2.2.2.2.1,r19.2.2.2.2.2.2.2)).bind fun r20 =>
 (loop Z87 ((((List.length r20.2.2.2.1):Nat):Int),(0:Int),r20.1,r20.2.1,x.1,r20.2.2.2.1,r20.2.2.1,r20.2.2.2.2.1,r20.2.2.2.2.2.1,r20.2.2.2.2.2.2)).bind fun r21 =>
 some (r21.1,r21.2.1,r21.2.2.1,r21.2.2.2.1,r21.2.2.2.2.1,r21.2.2.2.2.2.1,r21.2.2.2.2.2.2)
 else
 none
 else
 none
 else
 none
 else
 bif (x.2.2.2.1 == (2:Int)) then
 (Z35 (x.1.1,(6:Int),x.2.1,(0:Int),x.1.2.2,r18.2.1,r18.2.2.1,r18.2.2.2.1,r18.2.2.2.2.1,r18.2.2.2.2.2.1,r18.2.2.2.2.2.2.1,r18.2.2.2.2.2.2.2)).bind fun r19 =>
 bif (inb x.1.1 (List.length r19.2.2.2.1)) then
 (Z22 (x.1.1,r19.2.1,r19.2.2.1,(List.set r19.2.2.2.1 (toN x.1.1) ((getAt ((0:Int),(0:Int),(0:Int),false) r19.2.2.2.1 (toN x.1.1)).1,(getAt ((0:Int),(0:Int),(0:Int),false) r19.2.2.2.1 (toN x.1.1)).2.1,(getAt ((0:Int),(0:Int),(0:Int),false) r19.2.2.2.1 (toN x.1.1)).2.2.1,true)),r19.2.2.2.2.1,r19.2.2.2.2.2.1,r19.2.2.2.2.2.2.1,r19.2.2.2.2.2.2.2)).bind fun r20 =>
 (loop Z87 ((((List.length r20.2.2.2.1):Nat):Int),(0:Int),r20.1,r20.2.1,x.1,r20.2.2.2.1,r20.2.2.1,r20.2.2.2.2.1,r20.2.2.2.2.2.1,r20.2.2.2.2.2.2)).bind fun r21 =>
 some (r21.1,r21.2.1,r21.2.2.1,r21.2.2.2.1,r21.2.2.2.2.1,r21.2.2.2.2.2.1,r21.2.2.2.2.2.2)
 else
 none
 else
 (Z35 (x.1.1,(5:Int),x.2.1,x.2.2.1,x.1.2.2,r18.2.1,r18.2.2.1,r18.2.2.2.1,r18.2.2.2.2.1,r18.2.2.2.2.2.1,r18.2.2.2.2.2.2.1,r18.2.2.2.2.2.2.2)).bind fun r19 =>
 bif (inb x.1.1 (List.length r19.2.2.2.1)) then
 (Z22 (x.1.1,r19.2.1,r19.2.2.1,(List.set r19.2.2.2.1 (toN x.1.1) ((getAt ((0:Int),(0:Int),(0:Int),false) r19.2.2.2.1 (toN x.1.1)).1,(getAt ((0:Int),(0:Int),(0:Int),false) r19.2.2.2.1 (toN x.1.1)).2.1,(getAt ((0:Int),(0:Int),(0:Int),false) r19.2.2.2.1 (toN x.1.1)).2.2.1,false)),r19.2.2.2.2.1,r19.2.2.2.2.2.1,r19.2.2.2.2.2.2.1,r19.2.2.2.2.2.2.2)).bind fun r20 =>
 (loop Z87 ((((List.length r20.2.2.2.1):Nat):Int),(0:Int),r20.1,r20.2.1,x.1,r20.2.2.2.1,r20.2.2.1,r20.2.2.2.2.1,r20.2.2.2.2.2.1,r20.2.2.2.2.2.2)).bind fun r21 =>
 some (r21.1,r21.2.1,r21.2.2.1,r21.2.2.2.1,r21.2.2.2.2.1,r21.2.2.2.2.2.1,r21.2.2.2.2.2.2)
 else
 none
abbrev Zoq:=Spec.shp Zh4 Zkx Z1y
def Zat:Ctx:={ tb:=mkTb T2.tbl,fx:=[(78,[],Zou),(40,[],Zpb),(120,[],Zos),(168,[],Znt)],sum:=[(0,13,Yau Zfh Zel (loop Z87))],nt:=120,pin:=1,nr:=true,ys:=[] }
theorem Z1z:Sound Tryz.prog 123 (Zoq) :=
 Sound.shp (C:=Zat) (fn:=Tryz.f123) (by kernel_rfl) (c:=bodyOf Tryz.f123) (by kernel_rfl) (by decide) (ctxOK mixed tbl_ok rfl ⟨Z27,Z36,Z23,Z3,trivial⟩ trivial) (SumOK.of ⟨(Yaw (d:=.loop (loopOf 13 Tryz.f123)) (by kernel_rfl) Z88),trivial⟩) (by kernel_rfl) Zh4 Zkx rfl (by decide) (by decide) rfl (by decide) rfl Z1y (fun x=>by kernel_rfl)
abbrev Zhf:Shape:={ sl:=sl_29,bl:=bl_2,ts:=[y5,(.int .i64),.bool,y39,y4,y18,y41,y19,y26,y27],pin:=0 }
abbrev Zl8:Shape:={ sl:=[],bl:=bl_2,ts:=ts_11,pin:=1 }
def Z2k (x:(T7 × Int × Bool × T47 × (Int × Int) × List (T17) × List T43 × List (T18) × List T29 × List (T20))):Option T57 :=
 (Z2g (x.1,x.2.1,x.2.2.1,x.2.2.2.1,x.2.2.2.2.1,x.2.2.2.2.2.1,x.2.2.2.2.2.2.1,x.2.2.2.2.2.2.2.1,x.2.2.2.2.2.2.2.2.1,x.2.2.2.2.2.2.2.2.2)).bind fun r16 =>
 bif (r16.1.1 == (0:Int)) then
 (Z39 (x.1.1,r16.2.1,r16.2.2.1,r16.2.2.2.1,r16.2.2.2.2.1,r16.2.2.2.2.2.1,r16.2.2.2.2.2.2.1,r16.2.2.2.2.2.2.2)).bind fun r17 =>
 some (r17.1,r17.2.1,r17.2.2.1,r17.2.2.2.1,r17.2.2.2.2.1,r17.2.2.2.2.2.1,r17.2.2.2.2.2.2)
 else
 bif (r16.1.1 == (3:Int)) then
 some (r16.2.1,(r16.2.2.1.1,(3:Int)),r16.2.2.2.1,r16.2.2.2.2.1,r16.2.2.2.2.2.1,r16.2.2.2.2.2.2.1,r16.2.2.2.2.2.2.2)
 else
 bif (r16.1.2.2.1.1 != (Int.negSucc 0)) then
 (Z1y (r16.1.2.2.1,x.2.1,r16.1.2.2.2,(1:Int),r16.2.1,r16.2.2.1,r16.2.2.2.1,r16.2.2.2.2.1,r16.2.2.2.2.2.1,r16.2.2.2.2.2.2.1,r16.2.2.2.2.2.2.2)).bind fun r17 =>
 (Z1y (x.1,x.2.1,r16.1.2.1,r16.1.1,r17.1,r17.2.1,r17.2.2.1,r17.2.2.2.1,r17.2.2.2.2.1,r17.2.2.2.2.2.1,r17.2.2.2.2.2.2)).bind fun r18 =>
 some (r18.1,r18.2.1,r18.2.2.1,r18.2.2.2.1,r18.2.2.2.2.1,r18.2.2.2.2.2.1,r18.2.2.2.2.2.2)
 else
 (Z1y (x.1,x.2.1,r16.1.2.1,r16.1.1,r16.2.1,r16.2.2.1,r16.2.2.2.1,r16.2.2.2.2.1,r16.2.2.2.2.2.1,r16.2.2.2.2.2.2.1,r16.2.2.2.2.2.2.2)).bind fun r17 =>
 some (r17.1,r17.2.1,r17.2.2.1,r17.2.2.2.1,r17.2.2.2.2.1,r17.2.2.2.2.2.1,r17.2.2.2.2.2.2)
abbrev Zp1:=Spec.shp Zhf Zl8 Z2k
def Zb6:Ctx:={ tb:=mkTb T2.tbl,fx:=[(124,[],Zoz),(125,[],Zpd),(123,[],Zoq)],sum:=[],nt:=47,pin:=1,nr:=true,ys:=[] }
theorem Z2l:Sound Tryz.prog 121 (Zp1) :=
 Sound.shp (C:=Zb6) (fn:=Tryz.f121) (by kernel_rfl) (c:=bodyOf Tryz.f121) (by kernel_rfl) (by decide) (ctxOK mixed tbl_ok rfl ⟨Z2h,Z3a,Z1z,trivial⟩ trivial) (SumOK.of trivial) (by kernel_rfl) Zhf Zl8 rfl (by decide) (by decide) rfl (by decide) rfl Z2k (fun x=>by kernel_rfl)
abbrev Zhj:Shape:={ sl:=sl_26,bl:=bl_2,ts:=ts_14,pin:=0 }
abbrev Zlc:Shape:={ sl:=[],bl:=bl_2,ts:=ts_11,pin:=1 }
def Z2s (x:T60):Option T57 :=
 (Z35 (x.1.1,(2:Int),x.2.1.2.1,(0:Int),(Int.negSucc 0),x.2.2.1,x.2.2.2.1,x.2.2.2.2.1,x.2.2.2.2.2.1,x.2.2.2.2.2.2.1,x.2.2.2.2.2.2.2.1,x.2.2.2.2.2.2.2.2)).bind fun r14 =>
 (Z2k ((x.1.1,(0:Int),r14.1),x.2.1.2.1,true,r14.2.1,r14.2.2.1,r14.2.2.2.1,r14.2.2.2.2.1,r14.2.2.2.2.2.1,r14.2.2.2.2.2.2.1,r14.2.2.2.2.2.2.2)).bind fun r15 =>
 some (r15.1,r15.2.1,r15.2.2.1,r15.2.2.2.1,r15.2.2.2.2.1,r15.2.2.2.2.2.1,r15.2.2.2.2.2.2)
abbrev Zp5:=Spec.shp Zhj Zlc Z2s
def Zbb:Ctx:={ tb:=mkTb T2.tbl,fx:=[(40,[],Zpb),(121,[],Zp1)],sum:=[],nt:=21,pin:=1,nr:=true,ys:=[] }
theorem Z2t:Sound Tryz.prog 65 (Zp5) :=
 Sound.shp (C:=Zbb) (fn:=Tryz.f65) (by kernel_rfl) (c:=bodyOf Tryz.f65) (by kernel_rfl) (by decide) (ctxOK mixed tbl_ok rfl ⟨Z36,Z2l,trivial⟩ trivial) (SumOK.of trivial) (by kernel_rfl) Zhj Zlc rfl (by decide) (by decide) rfl (by decide) rfl Z2s (fun x=>by kernel_rfl)
abbrev Zhh:Shape:={ sl:=sl_26,bl:=bl_2,ts:=ts_14,pin:=0 }
abbrev Zla:Shape:={ sl:=[],bl:=bl_2,ts:=ts_11,pin:=1 }
def Z2o (x:T60):Option T57 :=
 (Z35 (x.1.1,(4:Int),x.2.1.2.1,(0:Int),(Int.negSucc 0),x.2.2.1,x.2.2.2.1,x.2.2.2.2.1,x.2.2.2.2.2.1,x.2.2.2.2.2.2.1,x.2.2.2.2.2.2.2.1,x.2.2.2.2.2.2.2.2)).bind fun r14 =>
 (Z2k ((x.1.1,(0:Int),r14.1),x.2.1.2.1,false,r14.2.1,r14.2.2.1,r14.2.2.2.1,r14.2.2.2.2.1,r14.2.2.2.2.2.1,r14.2.2.2.2.2.2.1,r14.2.2.2.2.2.2.2)).bind fun r15 =>
 some (r15.1,r15.2.1,r15.2.2.1,r15.2.2.2.1,r15.2.2.2.2.1,r15.2.2.2.2.2.1,r15.2.2.2.2.2.2)
abbrev Zp3:=Spec.shp Zhh Zla Z2o
def Zb8:Ctx:={ tb:=mkTb T2.tbl,fx:=[(40,[],Zpb),(121,[],Zp1)],sum:=[],nt:=21,pin:=1,nr:=true,ys:=[] }
theorem Z2p:Sound Tryz.prog 66 (Zp3) :=
 Sound.shp (C:=Zb8) (fn:=Tryz.f66) (by kernel_rfl) (c:=bodyOf Tryz.f66) (by kernel_rfl) (by decide) (ctxOK mixed tbl_ok rfl ⟨Z36,Z2l,trivial⟩ trivial) (SumOK.of trivial) (by kernel_rfl) Zhh Zla rfl (by decide) (by decide) rfl (by decide) rfl Z2o (fun x=>by kernel_rfl)
abbrev Zg6:Shape:={ sl:=[(0,(.hole y40))],bl:=[],ts:=[y40],pin:=0 }
abbrev Zjz:Shape:={ sl:=[(0,(.hole y40)),(1,(.hole (.slice y5))),(2,(.hole .bool)),(3,(.hole (.int .i64)))],bl:=[],ts:=[y40,(.slice y5),.bool,(.int .i64)],pin:=0 }
def Z0 (x:T43):Option ((Int × T40) × List (T7) × Bool × Int) :=
 (Za x).bind fun r15 =>
 bif (Bool.not r15) then
 some (((0:Int),false,((0:Int),(0:Int),([]:List Int),(0:Int)),(0:Int),(0:Int),([]:List T7),([]:List T7)),([]:List T7),false,(1:Int))
 else
 bif (decide (x.1 < (0:Int))) then
 some (x,([]:List T7),true,(0:Int))
 else
 bif x.2.1 then
 some (x,([]:List T7),true,(0:Int))
 else
 bif (decide ((((List.length x.2.2.2.2.2.1):Nat):Int) > (0:Int))) then
 some (x,([]:List T7),true,(0:Int))
 else
 some ((x.1,true,x.2.2.1,x.2.2.2.1,x.2.2.2.2.1,x.2.2.2.2.2.1,([]:List T7)),x.2.2.2.2.2.2,false,(0:Int))
abbrev Zns:=Spec.shp Zg6 Zjz Z0
def Z9o:Ctx:={ tb:=mkTb T2.tbl,fx:=[(112,[],Znx)],sum:=[],nt:=31,pin:=0,nr:=true,ys:=[] }
theorem Z1:Sound Tryz.prog 122 (Zns) :=
 Sound.shp (C:=Z9o) (fn:=Tryz.f122) (by kernel_rfl) (c:=bodyOf Tryz.f122) (by kernel_rfl) (by decide) (ctxOK mixed tbl_ok rfl ⟨Zb,trivial⟩ trivial) (SumOK.of trivial) (by kernel_rfl) Zg6 Zjz rfl (by decide) (by decide) rfl (by decide) rfl Z0 (fun x=>by kernel_rfl)
abbrev Zfk:Shape:={ sl:=[(0,(.ptr 0 [])),(5,(.ptr 1 [])),(10,(.mp 2)),(53,(.hole (.slice y5))),(54,(.hole (.int .i64))),(55,(.hole (.int .i64)))],bl:=[.var (.pr (.pr (.hole y39) (.pr (.sl 3) (.pr (.sl 4) (.pr (.sl 5) (.pr (.sl 6) (.hole y4)))))) (.sl 7)),.var (.hole y5),.mp (.int .i64) (.int .i64),.row y12,.row y40,.row y15,.row y23,.row y24],ts:=[(.slice y5),(.int .i64),(.int .i64),y39,y4,y5,(.slice y4),y18,y41,y19,y26,y27],pin:=1 }
abbrev Zeo:List (ETag × Shape):=[(.exit 0,{ sl:=[],bl:=bl_2,ts:=ts_11,pin:=1 })]
def Z8d (x:(List (T7) × Int × Int × T47 × (Int × Int) × T7 × List (Int × Int) × List (T17) × List T43 × List (T18) × List T29 × List (T20))):Option ((List (T7) × Int × Int × T47 × (Int × Int) × T7 × List (Int × Int) × List (T17) × List T43 × List (T18) × List T29 × List (T20)) ⊕ (T57)) :=
 bif (decide (x.2.2.1 < x.2.1)) then
 bif (inb x.2.2.1 (List.length x.1)) then
 bif ((@mlook (Int) (Int) (Ty.beq (.int .i64)) (Ty.zero (.int .i64)) (getAt ((0:Int),(0:Int),(0:Int)) x.1 (toN x.2.2.1)).1 (@mput (Int) (Int) (Ty.beq (.int .i64)) (getAt ((0:Int),(0:Int),(0:Int)) x.1 (toN x.2.2.1)).1 (IntKind.wrap .i64 ((@mlook (Int) (Int) (Ty.beq (.int .i64)) (Ty.zero (.int .i64)) (getAt ((0:Int),(0:Int),(0:Int)) x.1 (toN x.2.2.1)).1 x.2.2.2.2.2.2.1)+(1:Int))) x.2.2.2.2.2.2.1)) == (1:Int)) then
 (Z1y ((getAt ((0:Int),(0:Int),(0:Int)) x.1 (toN x.2.2.1)),x.2.2.2.2.2.1.2.1,(0:Int),(2:Int),x.2.2.2.1,x.2.2.2.2.1,x.2.2.2.2.2.2.2.1,x.2.2.2.2.2.2.2.2.1,x.2.2.2.2.2.2.2.2.2.1,x.2.2.2.2.2.2.2.2.2.2.1,x.2.2.2.2.2.2.2.2.2.2.2)).bind fun r18 =>
 some (.inl (x.1,x.2.1,(IntKind.wrap .i64 (x.2.2.1+(1:Int))),r18.1,r18.2.1,x.2.2.2.2.2.1,(@mput (Int) (Int) (Ty.beq (.int .i64)) (getAt ((0:Int),(0:Int),(0:Int)) x.1 (toN x.2.2.1)).1 (IntKind.wrap .i64 ((@mlook (Int) (Int) (Ty.beq (.int .i64)) (Ty.zero (.int .i64)) (getAt ((0:Int),(0:Int),(0:Int)) x.1 (toN x.2.2.1)).1 x.2.2.2.2.2.2.1)+(1:Int))) x.2.2.2.2.2.2.1),r18.2.2.1,r18.2.2.2.1,r18.2.2.2.2.1,r18.2.2.2.2.2.1,r18.2.2.2.2.2.2))
 else
 some (.inl (x.1,x.2.1,(IntKind.wrap .i64 (x.2.2.1+(1:Int))),x.2.2.2.1,x.2.2.2.2.1,x.2.2.2.2.2.1,(@mput (Int) (Int) (Ty.beq (.int .i64)) (getAt ((0:Int),(0:Int),(0:Int)) x.1 (toN x.2.2.1)).1 (IntKind.wrap .i64 ((@mlook (Int) (Int) (Ty.beq (.int .i64)) (Ty.zero (.int .i64)) (getAt ((0:Int),(0:Int),(0:Int)) x.1 (toN x.2.2.1)).1 x.2.2.2.2.2.2.1)+(1:Int))) x.2.2.2.2.2.2.1),x.2.2.2.2.2.2.2.1,x.2.2.2.2.2.2.2.2.1,x.2.2.2.2.2.2.2.2.2.1,x.2.2.2.2.2.2.2.2.2.2.1,x.2.2.2.2.2.2.2.2.2.2.2))
 else
 none
 else
 some (.inr (x.2.2.2.1,x.2.2.2.2.1,x.2.2.2.2.2.2.2.1,x.2.2.2.2.2.2.2.2.1,x.2.2.2.2.2.2.2.2.2.1,x.2.2.2.2.2.2.2.2.2.2.1,x.2.2.2.2.2.2.2.2.2.2.2))
def Zbg:Ctx:={ tb:=mkTb T2.tbl,fx:=[(122,[],Zns),(40,[],Zpb),(120,[],Zos),(123,[],Zoq)],sum:=[],nt:=75,pin:=1,nr:=true,ys:=[] }
theorem Z8e:CSound Tryz.prog ⟨75,1,true⟩ (.loop (loopOf 10 Tryz.f67)) (Yau Zfk Zeo (loop Z8d)) :=
 Y8b (C:=Zbg) (ctxOK mixed tbl_ok rfl ⟨Z1,Z36,Z23,Z1z,trivial⟩ trivial) (SumOK.of trivial) Zfk Zeo rfl rfl Z8d (fun x=>by kernel_rfl)
abbrev Zhn:Shape:={ sl:=sl_26,bl:=bl_2,ts:=ts_14,pin:=0 }
abbrev Zlg:Shape:={ sl:=[],bl:=bl_2,ts:=ts_11,pin:=1 }
def Z31 (x:T60):Option T57 :=
 bif (inb x.2.1.2.1 (List.length x.2.2.2.2.2.1)) then
 (Z0 (getAt ((0:Int),false,((0:Int),(0:Int),([]:List Int),(0:Int)),(0:Int),(0:Int),([]:List T7),([]:List T7)) x.2.2.2.2.2.1 (toN x.2.1.2.1))).bind fun r14 =>
 bif r14.2.2.1 then
 some (x.2.2.1,(x.2.2.2.1.1,(3:Int)),x.2.2.2.2.1,x.2.2.2.2.2.1,x.2.2.2.2.2.2.1,x.2.2.2.2.2.2.2.1,x.2.2.2.2.2.2.2.2)
 else
 bif (inb x.2.1.2.1 (List.length x.2.2.2.2.2.1)) then
 (Z35 (x.1.1,(7:Int),x.2.1.2.1,(0:Int),(Int.negSucc 0),x.2.2.1,x.2.2.2.1,x.2.2.2.2.1,(List.set x.2.2.2.2.2.1 (toN x.2.1.2.1) r14.1),x.2.2.2.2.2.2.1,x.2.2.2.2.2.2.2.1,x.2.2.2.2.2.2.2.2)).bind fun r15 =>
 (Z22 (x.1.1,r15.2.1,r15.2.2.1,r15.2.2.2.1,r15.2.2.2.2.1,r15.2.2.2.2.2.1,r15.2.2.2.2.2.2.1,r15.2.2.2.2.2.2.2)).bind fun r16 =>
 (loop Z8d (r14.2.1,(((List.length r14.2.1):Nat):Int),(0:Int),r16.1,r16.2.1,x.2.1,([]:List (Int × Int)),r16.2.2.1,r16.2.2.2.1,r16.2.2.2.2.1,r16.2.2.2.2.2.1,r16.2.2.2.2.2.2)).bind fun r17 =>
 some (r17.1,r17.2.1,r17.2.2.1,r17.2.2.2.1,r17.2.2.2.2.1,r17.2.2.2.2.2.1,r17.2.2.2.2.2.2)
 else
 none
 else
 none
abbrev Zp9:=Spec.shp Zhn Zlg Z31
def Zbf:Ctx:={ tb:=mkTb T2.tbl,fx:=[(122,[],Zns),(40,[],Zpb),(120,[],Zos),(123,[],Zoq)],sum:=[(0,10,Yau Zfk Zeo (loop Z8d))],nt:=75,pin:=1,nr:=true,ys:=[] }
theorem Z32:Sound Tryz.prog 67 (Zp9) :=
 Sound.shp (C:=Zbf) (fn:=Tryz.f67) (by kernel_rfl) (c:=bodyOf Tryz.f67) (by kernel_rfl) (by decide) (ctxOK mixed tbl_ok rfl ⟨Z1,Z36,Z23,Z1z,trivial⟩ trivial) (SumOK.of ⟨(Yaw (d:=.loop (loopOf 10 Tryz.f67)) (by kernel_rfl) Z8e),trivial⟩) (by kernel_rfl) Zhn Zlg rfl (by decide) (by decide) rfl (by decide) rfl Z31 (fun x=>by kernel_rfl)
abbrev Zfj:Shape:={ sl:=[(0,(.ptr 0 [])),(4,(.ptr 1 [])),(6,(.hole (.int .i64))),(28,(.hole (.slice y2))),(29,(.hole (.int .i64))),(30,(.hole (.int .i64)))],bl:=bl_15,ts:=[(.int .i64),(.slice y2),(.int .i64),(.int .i64),y39,y4,y4,y18,y41,y19,y26,y27],pin:=1 }
abbrev Zen:List (ETag × Shape):=[(.exit 1,{ sl:=[(0,(.ptr 0 [])),(4,(.ptr 1 []))],bl:=bl_15,ts:=[y39,y4,y4,y18,y41,y19,y26,y27],pin:=1 })]
def Z8b (x:(Int × List T0 × Int × Int × T47 × (Int × Int) × (Int × Int) × List (T17) × List T43 × List (T18) × List T29 × List (T20))):Option ((Int × List T0 × Int × Int × T47 × (Int × Int) × (Int × Int) × List (T17) × List T43 × List (T18) × List T29 × List (T20)) ⊕ (T47 × (Int × Int) × (Int × Int) × List (T17) × List T43 × List (T18) × List T29 × List (T20))) :=
 bif (decide (x.2.2.2.1 < x.2.2.1)) then
 bif (inb x.2.2.2.1 (List.length x.2.1)) then
 (Z2g ((x.2.2.2.2.2.2.1.1,x.2.2.2.1,x.1),(getAt (false,(0:Int)) x.2.1 (toN x.2.2.2.1)).2,(getAt (false,(0:Int)) x.2.1 (toN x.2.2.2.1)).1,x.2.2.2.2.1,x.2.2.2.2.2.1,x.2.2.2.2.2.2.2.1,x.2.2.2.2.2.2.2.2.1,x.2.2.2.2.2.2.2.2.2.1,x.2.2.2.2.2.2.2.2.2.2.1,x.2.2.2.2.2.2.2.2.2.2.2)).bind fun r16 =>
 some (.inl (x.1,x.2.1,x.2.2.1,(IntKind.wrap .i64 (x.2.2.2.1+(1:Int))),r16.2.1,r16.2.2.1,x.2.2.2.2.2.2.1,r16.2.2.2.1,r16.2.2.2.2.1,r16.2.2.2.2.2.1,r16.2.2.2.2.2.2.1,r16.2.2.2.2.2.2.2))
 else
 none
 else
 some (.inr (x.2.2.2.2.1,x.2.2.2.2.2.1,x.2.2.2.2.2.2.1,x.2.2.2.2.2.2.2.1,x.2.2.2.2.2.2.2.2.1,x.2.2.2.2.2.2.2.2.2.1,x.2.2.2.2.2.2.2.2.2.2.1,x.2.2.2.2.2.2.2.2.2.2.2))
def Zba:Ctx:={ tb:=mkTb T2.tbl,fx:=[(40,[],Zpb),(121,[],Zp1),(120,[],Zos),(124,[],Zoz)],sum:=[],nt:=87,pin:=1,nr:=true,ys:=[] }
theorem Z8c:CSound Tryz.prog ⟨87,1,true⟩ (.loop (loopOf 5 Tryz.f68)) (Yau Zfj Zen (loop Z8b)) :=
 Y8b (C:=Zba) (ctxOK mixed tbl_ok rfl ⟨Z36,Z2l,Z23,Z2h,trivial⟩ trivial) (SumOK.of trivial) Zfj Zen rfl rfl Z8b (fun x=>by kernel_rfl)
abbrev Zhi:Shape:={ sl:=sl_26,bl:=bl_2,ts:=ts_14,pin:=0 }
abbrev Zlb:Shape:={ sl:=[],bl:=bl_2,ts:=ts_11,pin:=1 }
def Z2q (x:T60):Option T57 :=
 (Z35 (x.1.1,(8:Int),x.2.1.2.1,(0:Int),(Int.negSucc 0),x.2.2.1,x.2.2.2.1,x.2.2.2.2.1,x.2.2.2.2.2.1,x.2.2.2.2.2.2.1,x.2.2.2.2.2.2.2.1,x.2.2.2.2.2.2.2.2)).bind fun r14 =>
 bif (inb x.2.1.2.1 (List.length r14.2.1.2.2.2.2.1)) then
 bif (x.1.2 != (Int.negSucc 0)) then
 bif (inb x.1.2 (List.length (getAt (([]:List T0),false) r14.2.1.2.2.2.2.1 (toN x.2.1.2.1)).1)) then
 (Z2k ((x.1.1,x.1.2,r14.1),(getAt (false,(0:Int)) (getAt (([]:List T0),false) r14.2.1.2.2.2.2.1 (toN x.2.1.2.1)).1 (toN x.1.2)).2,(getAt (false,(0:Int)) (getAt (([]:List T0),false) r14.2.1.2.2.2.2.1 (toN x.2.1.2.1)).1 (toN x.1.2)).1,r14.2.1,r14.2.2.1,r14.2.2.2.1,r14.2.2.2.2.1,r14.2.2.2.2.2.1,r14.2.2.2.2.2.2.1,r14.2.2.2.2.2.2.2)).bind fun r15 =>
 some (r15.1,r15.2.1,r15.2.2.1,r15.2.2.2.1,r15.2.2.2.2.1,r15.2.2.2.2.2.1,r15.2.2.2.2.2.2)
 else
 none
 else
 bif (getAt (([]:List T0),false) r14.2.1.2.2.2.2.1 (toN x.2.1.2.1)).2 then
 (Z35 (x.1.1,(9:Int),x.2.1.2.1,(0:Int),r14.1,r14.2.1,r14.2.2.1,r14.2.2.2.1,r14.2.2.2.2.1,r14.2.2.2.2.2.1,r14.2.2.2.2.2.2.1,r14.2.2.2.2.2.2.2)).bind fun r15 =>
 (Z22 (x.1.1,r15.2.1,r15.2.2.1,r15.2.2.2.1,r15.2.2.2.2.1,r15.2.2.2.2.2.1,r15.2.2.2.2.2.2.1,r15.2.2.2.2.2.2.2)).bind fun r16 =>
 some (r16.1,r16.2.1,r16.2.2.1,r16.2.2.2.1,r16.2.2.2.2.1,r16.2.2.2.2.2.1,r16.2.2.2.2.2.2)
 else
 (loop Z8b (r14.1,(getAt (([]:List T0),false) r14.2.1.2.2.2.2.1 (toN x.2.1.2.1)).1,(((List.length (getAt (([]:List T0),false) r14.2.1.2.2.2.2.1 (toN x.2.1.2.1)).1):Nat):Int),(0:Int),r14.2.1,r14.2.2.1,x.1,r14.2.2.2.1,r14.2.2.2.2.1,r14.2.2.2.2.2.1,r14.2.2.2.2.2.2.1,r14.2.2.2.2.2.2.2)).bind fun r15 =>
 (Z39 (r15.2.2.1.1,r15.1,r15.2.1,r15.2.2.2.1,r15.2.2.2.2.1,r15.2.2.2.2.2.1,r15.2.2.2.2.2.2.1,r15.2.2.2.2.2.2.2)).bind fun r16 =>
 some (r16.1,r16.2.1,r16.2.2.1,r16.2.2.2.1,r16.2.2.2.2.1,r16.2.2.2.2.2.1,r16.2.2.2.2.2.2)
 else
 none
abbrev Zp4:=Spec.shp Zhi Zlb Z2q
def Zb9:Ctx:={ tb:=mkTb T2.tbl,fx:=[(40,[],Zpb),(121,[],Zp1),(120,[],Zos),(124,[],Zoz),(125,[],Zpd)],sum:=[(0,5,Yau Zfj Zen (loop Z8b))],nt:=87,pin:=1,nr:=true,ys:=[] }
theorem Z2r:Sound Tryz.prog 68 (Zp4) :=
 Sound.shp (C:=Zb9) (fn:=Tryz.f68) (by kernel_rfl) (c:=bodyOf Tryz.f68) (by kernel_rfl) (by decide) (ctxOK mixed tbl_ok rfl ⟨Z36,Z2l,Z23,Z2h,Z3a,trivial⟩ trivial) (SumOK.of ⟨(Yaw (d:=.loop (loopOf 5 Tryz.f68)) (by kernel_rfl) Z8c),trivial⟩) (by kernel_rfl) Zhi Zlb rfl (by decide) (by decide) rfl (by decide) rfl Z2q (fun x=>by kernel_rfl)
abbrev Zgp:Shape:={ sl:=[(0,(.hole (.one (.slice y5))))],bl:=[],ts:=[(.one (.slice y5))],pin:=0 }
abbrev Zki:Shape:={ sl:=[(0,(.hole y15))],bl:=[],ts:=[y15],pin:=0 }
def Z14 (x:(List (T7))):Option (T18) :=
 some (true,x)
abbrev Zob:=Spec.shp Zgp Zki Z14
def Za8:Ctx:={ tb:=mkTb T2.tbl,fx:=[],sum:=[],nt:=6,pin:=0,nr:=true,ys:=[] }
theorem Z15:Sound Tryz.prog 172 (Zob) :=
 Sound.shp (C:=Za8) (fn:=Tryz.f172) (by kernel_rfl) (c:=bodyOf Tryz.f172) (by kernel_rfl) (by decide) (ctxOK mixed tbl_ok rfl trivial trivial) (SumOK.of trivial) (by kernel_rfl) Zgp Zki rfl (by decide) (by decide) rfl (by decide) rfl Z14 (fun x=>by kernel_rfl)
abbrev Zgo:Shape:={ sl:=[(0,(.hole y15)),(1,(.hole y5))],bl:=[],ts:=[y15,y5],pin:=0 }
abbrev Zkh:Shape:={ sl:=[(0,(.hole y15)),(1,(.hole .bool)),(2,(.hole (.int .i64)))],bl:=[],ts:=[y15,.bool,(.int .i64)],pin:=0 }
def Z12 (x:(T18 × T7)):Option (T18 × Bool × Int) :=
 (Z7j (x.1.2,x.2)).bind fun r16 =>
 (Z10 x.1).bind fun r17 =>
 bif (Bool.not r17) then
 some ((false,([]:List T7)),false,(1:Int))
 else
 bif (r16.2 == (1:Int)) then
 some ((false,([]:List T7)),false,(1:Int))
 else
 bif (Bool.not x.1.1) then
 (Z14 ([]:List T7)).bind fun r18 =>
 some (r18,true,(0:Int))
 else
 bif (r16.2 != (0:Int)) then
 some ((false,([]:List T7)),false,r16.2)
 else
 (Z14 r16.1).bind fun r18 =>
 some (r18,false,(0:Int))
abbrev Zoa:=Spec.shp Zgo Zkh Z12
def Za7:Ctx:={ tb:=mkTb T2.tbl,fx:=[(171,[],Zrf),(117,[],Zo9),(172,[],Zob)],sum:=[],nt:=39,pin:=0,nr:=true,ys:=[] }
theorem Z13:Sound Tryz.prog 126 (Zoa) :=
 Sound.shp (C:=Za7) (fn:=Tryz.f126) (by kernel_rfl) (c:=bodyOf Tryz.f126) (by kernel_rfl) (by decide) (ctxOK mixed tbl_ok rfl ⟨Z7k,Z11,Z15,trivial⟩ trivial) (SumOK.of trivial) (by kernel_rfl) Zgo Zkh rfl (by decide) (by decide) rfl (by decide) rfl Z12 (fun x=>by kernel_rfl)
abbrev Zhb:Shape:={ sl:=[(0,(.ptr 0 [])),(1,(.hole (.int .i64))),(2,(.hole (.int .i64))),(3,(.hole (.int .i64)))],bl:=bl_2,ts:=[(.int .i64),(.int .i64),(.int .i64),y39,y4,y18,y41,y19,y26,y27],pin:=0 }
abbrev Zl4:Shape:={ sl:=[],bl:=bl_2,ts:=ts_11,pin:=1 }
def Z2c (x:(Int × Int × Int × T47 × (Int × Int) × List (T17) × List T43 × List (T18) × List T29 × List (T20))):Option T57 :=
 (Z35 (x.1,(11:Int),x.2.1,(0:Int),x.2.2.1,x.2.2.2.1,x.2.2.2.2.1,x.2.2.2.2.2.1,x.2.2.2.2.2.2.1,x.2.2.2.2.2.2.2.1,x.2.2.2.2.2.2.2.2.1,x.2.2.2.2.2.2.2.2.2)).bind fun r17 =>
 (Z22 (x.1,r17.2.1,r17.2.2.1,r17.2.2.2.1,r17.2.2.2.2.1,r17.2.2.2.2.2.1,r17.2.2.2.2.2.2.1,r17.2.2.2.2.2.2.2)).bind fun r18 =>
 some (r18.1,r18.2.1,r18.2.2.1,r18.2.2.2.1,r18.2.2.2.2.1,r18.2.2.2.2.2.1,r18.2.2.2.2.2.2)
abbrev Zox:=Spec.shp Zhb Zl4 Z2c
def Zb2:Ctx:={ tb:=mkTb T2.tbl,fx:=[(40,[],Zpb),(120,[],Zos)],sum:=[],nt:=16,pin:=1,nr:=true,ys:=[] }
theorem Z2d:Sound Tryz.prog 127 (Zox) :=
 Sound.shp (C:=Zb2) (fn:=Tryz.f127) (by kernel_rfl) (c:=bodyOf Tryz.f127) (by kernel_rfl) (by decide) (ctxOK mixed tbl_ok rfl ⟨Z36,Z23,trivial⟩ trivial) (SumOK.of trivial) (by kernel_rfl) Zhb Zl4 rfl (by decide) (by decide) rfl (by decide) rfl Z2c (fun x=>by kernel_rfl)
abbrev Zha:Shape:={ sl:=sl_26,bl:=bl_2,ts:=ts_14,pin:=0 }
abbrev Zl3:Shape:={ sl:=[],bl:=bl_2,ts:=ts_11,pin:=1 }
def Z2a (x:T60):Option T57 :=
 (Z35 (x.1.1,(10:Int),x.2.1.2.1,(0:Int),(Int.negSucc 0),x.2.2.1,x.2.2.2.1,x.2.2.2.2.1,x.2.2.2.2.2.1,x.2.2.2.2.2.2.1,x.2.2.2.2.2.2.2.1,x.2.2.2.2.2.2.2.2)).bind fun r14 =>
 bif (inb x.2.1.2.1 (List.length r14.2.2.2.2.2.1)) then
 (Z12 ((getAt (false,([]:List T7)) r14.2.2.2.2.2.1 (toN x.2.1.2.1)),x.1.1,(0:Int),r14.1)).bind fun r15 =>
 bif (inb x.2.1.2.1 (List.length r14.2.2.2.2.2.1)) then
 bif (Bool.not r15.2.1) then
 (Z39 (x.1.1,r14.2.1,r14.2.2.1,r14.2.2.2.1,r14.2.2.2.2.1,(List.set r14.2.2.2.2.2.1 (toN x.2.1.2.1) r15.1),r14.2.2.2.2.2.2.1,r14.2.2.2.2.2.2.2)).bind fun r16 =>
 some (r16.1,r16.2.1,r16.2.2.1,r16.2.2.2.1,r16.2.2.2.2.1,r16.2.2.2.2.2.1,r16.2.2.2.2.2.2)
 else
 (Z2c (x.1.1,x.2.1.2.1,r14.1,r14.2.1,r14.2.2.1,r14.2.2.2.1,r14.2.2.2.2.1,(List.set r14.2.2.2.2.2.1 (toN x.2.1.2.1) r15.1),r14.2.2.2.2.2.2.1,r14.2.2.2.2.2.2.2)).bind fun r16 =>
 some (r16.1,r16.2.1,r16.2.2.1,r16.2.2.2.1,r16.2.2.2.2.1,r16.2.2.2.2.2.1,r16.2.2.2.2.2.2)
 else
 none
 else
 none
abbrev Zow:=Spec.shp Zha Zl3 Z2a
def Zb1:Ctx:={ tb:=mkTb T2.tbl,fx:=[(40,[],Zpb),(126,[],Zoa),(125,[],Zpd),(127,[],Zox)],sum:=[],nt:=56,pin:=1,nr:=true,ys:=[] }
theorem Z2b:Sound Tryz.prog 69 (Zow) :=
 Sound.shp (C:=Zb1) (fn:=Tryz.f69) (by kernel_rfl) (c:=bodyOf Tryz.f69) (by kernel_rfl) (by decide) (ctxOK mixed tbl_ok rfl ⟨Z36,Z13,Z3a,Z2d,trivial⟩ trivial) (SumOK.of trivial) (by kernel_rfl) Zha Zl3 rfl (by decide) (by decide) rfl (by decide) rfl Z2a (fun x=>by kernel_rfl)
abbrev Zgm:Shape:={ sl:=[(0,(.hole y15))],bl:=[],ts:=[y15],pin:=0 }
abbrev Zkf:Shape:={ sl:=[(0,(.hole y15)),(1,(.hole y5)),(2,(.hole .bool)),(3,(.hole (.int .i64)))],bl:=[],ts:=[y15,y5,.bool,(.int .i64)],pin:=0 }
def Zy (x:(T18)):Option (T18 × T7 × Bool × Int) :=
 (Z10 x).bind fun r15 =>
 bif (Bool.not r15) then
 some ((false,([]:List T7)),((0:Int),(0:Int),(0:Int)),false,(1:Int))
 else
 bif (Bool.not x.1) then
 some ((false,([]:List T7)),((0:Int),(0:Int),(0:Int)),false,(6:Int))
 else
 bif ((((List.length x.2):Nat):Int) == (0:Int)) then
 some ((false,([]:List T7)),((0:Int),(0:Int),(0:Int)),false,(0:Int))
 else
 bif (sub3 (1:Int) (((List.length x.2):Nat):Int) (List.length x.2)) then
 (Z14 (cut x.2 (toN (1:Int)) ((toN (((List.length x.2):Nat):Int)) - (toN (1:Int))))).bind fun r16 =>
 bif (inb (0:Int) (List.length x.2)) then
 some (r16,(getAt ((0:Int),(0:Int),(0:Int)) x.2 (toN (0:Int))),true,(0:Int))
 else
 none
 else
 none
abbrev Zo8:=Spec.shp Zgm Zkf Zy
def Za5:Ctx:={ tb:=mkTb T2.tbl,fx:=[(117,[],Zo9),(172,[],Zob)],sum:=[],nt:=34,pin:=0,nr:=true,ys:=[] }
theorem Zz:Sound Tryz.prog 128 (Zo8) :=
 Sound.shp (C:=Za5) (fn:=Tryz.f128) (by kernel_rfl) (c:=bodyOf Tryz.f128) (by kernel_rfl) (by decide) (ctxOK mixed tbl_ok rfl ⟨Z11,Z15,trivial⟩ trivial) (SumOK.of trivial) (by kernel_rfl) Zgm Zkf rfl (by decide) (by decide) rfl (by decide) rfl Zy (fun x=>by kernel_rfl)
abbrev Zhq:Shape:={ sl:=sl_26,bl:=bl_2,ts:=ts_14,pin:=0 }
abbrev Zlj:Shape:={ sl:=[],bl:=bl_2,ts:=ts_11,pin:=1 }
def Z37 (x:T60):Option T57 :=
 bif (inb x.2.1.2.1 (List.length x.2.2.2.2.2.2.1)) then
 (Zy (getAt (false,([]:List T7)) x.2.2.2.2.2.2.1 (toN x.2.1.2.1))).bind fun r14 =>
 bif (r14.2.2.2 != (0:Int)) then
 some (x.2.2.1,(x.2.2.2.1.1,(3:Int)),x.2.2.2.2.1,x.2.2.2.2.2.1,x.2.2.2.2.2.2.1,x.2.2.2.2.2.2.2.1,x.2.2.2.2.2.2.2.2)
 else
 bif (inb x.2.1.2.1 (List.length x.2.2.2.2.2.2.1)) then
 (Z35 (x.1.1,(12:Int),x.2.1.2.1,(0:Int),(Int.negSucc 0),x.2.2.1,x.2.2.2.1,x.2.2.2.2.1,x.2.2.2.2.2.1,(List.set x.2.2.2.2.2.2.1 (toN x.2.1.2.1) r14.1),x.2.2.2.2.2.2.2.1,x.2.2.2.2.2.2.2.2)).bind fun r15 =>
 (Z22 (x.1.1,r15.2.1,r15.2.2.1,r15.2.2.2.1,r15.2.2.2.2.1,r15.2.2.2.2.2.1,r15.2.2.2.2.2.2.1,r15.2.2.2.2.2.2.2)).bind fun r16 =>
 bif r14.2.2.1 then
 (Z2c (r14.2.1.1,x.2.1.2.1,r14.2.1.2.2,r16.1,r16.2.1,r16.2.2.1,r16.2.2.2.1,r16.2.2.2.2.1,r16.2.2.2.2.2.1,r16.2.2.2.2.2.2)).bind fun r17 =>
 some (r17.1,r17.2.1,r17.2.2.1,r17.2.2.2.1,r17.2.2.2.2.1,r17.2.2.2.2.2.1,r17.2.2.2.2.2.2)
 else
 some (r16.1,r16.2.1,r16.2.2.1,r16.2.2.2.1,r16.2.2.2.2.1,r16.2.2.2.2.2.1,r16.2.2.2.2.2.2)
 else
 none
 else
 none
abbrev Zpc:=Spec.shp Zhq Zlj Z37
def Zbj:Ctx:={ tb:=mkTb T2.tbl,fx:=[(128,[],Zo8),(40,[],Zpb),(120,[],Zos),(127,[],Zox)],sum:=[],nt:=59,pin:=1,nr:=true,ys:=[] }
theorem Z38:Sound Tryz.prog 70 (Zpc) :=
 Sound.shp (C:=Zbj) (fn:=Tryz.f70) (by kernel_rfl) (c:=bodyOf Tryz.f70) (by kernel_rfl) (by decide) (ctxOK mixed tbl_ok rfl ⟨Zz,Z36,Z23,Z2d,trivial⟩ trivial) (SumOK.of trivial) (by kernel_rfl) Zhq Zlj rfl (by decide) (by decide) rfl (by decide) rfl Z37 (fun x=>by kernel_rfl)
abbrev Zhx:Shape:={ sl:=sl_30,bl:=[],ts:=[y23,y5],pin:=0 }
abbrev Zlq:Shape:={ sl:=sl_31,bl:=[],ts:=ts_15,pin:=0 }
def Z3l (x:T30):Option T34 :=
 some (((1:Int),x.2.1,([]:List T7)),(0:Int),(0:Int))
abbrev Zpj:=Spec.shp Zhx Zlq Z3l
def Zbq:Ctx:={ tb:=mkTb T2.tbl,fx:=[],sum:=[],nt:=10,pin:=0,nr:=true,ys:=[] }
theorem Z3m:Sound Tryz.prog 173 (Zpj) :=
 Sound.shp (C:=Zbq) (fn:=Tryz.f173) (by kernel_rfl) (c:=bodyOf Tryz.f173) (by kernel_rfl) (by decide) (ctxOK mixed tbl_ok rfl trivial trivial) (SumOK.of trivial) (by kernel_rfl) Zhx Zlq rfl (by decide) (by decide) rfl (by decide) rfl Z3l (fun x=>by kernel_rfl)
abbrev Zhz:Shape:={ sl:=sl_30,bl:=[],ts:=[y23,y5],pin:=0 }
abbrev Zls:Shape:={ sl:=sl_31,bl:=[],ts:=ts_15,pin:=0 }
def Z3p (x:T30):Option T34 :=
 bif (x.1.2.1 == x.2.1) then
 some (((0:Int),(0:Int),([]:List T7)),(0:Int),(6:Int))
 else
 (Z7j (x.1.2.2,x.2)).bind fun r18 =>
 bif (r18.2 != (0:Int)) then
 some (((0:Int),(0:Int),([]:List T7)),(0:Int),r18.2)
 else
 some ((x.1.1,x.1.2.1,r18.1),(1:Int),(0:Int))
abbrev Zpl:=Spec.shp Zhz Zls Z3p
def Zbs:Ctx:={ tb:=mkTb T2.tbl,fx:=[(171,[],Zrf)],sum:=[],nt:=29,pin:=0,nr:=true,ys:=[] }
theorem Z3q:Sound Tryz.prog 174 (Zpl) :=
 Sound.shp (C:=Zbs) (fn:=Tryz.f174) (by kernel_rfl) (c:=bodyOf Tryz.f174) (by kernel_rfl) (by decide) (ctxOK mixed tbl_ok rfl ⟨Z7k,trivial⟩ trivial) (SumOK.of trivial) (by kernel_rfl) Zhz Zls rfl (by decide) (by decide) rfl (by decide) rfl Z3p (fun x=>by kernel_rfl)
abbrev Zhy:Shape:={ sl:=sl_30,bl:=[],ts:=[y23,y5],pin:=0 }
abbrev Zlr:Shape:={ sl:=sl_31,bl:=[],ts:=ts_15,pin:=0 }
def Z3n (x:T30):Option T34 :=
 some (x.1,(2:Int),(0:Int))
abbrev Zpk:=Spec.shp Zhy Zlr Z3n
def Zbr:Ctx:={ tb:=mkTb T2.tbl,fx:=[],sum:=[],nt:=8,pin:=0,nr:=true,ys:=[] }
theorem Z3o:Sound Tryz.prog 175 (Zpk) :=
 Sound.shp (C:=Zbr) (fn:=Tryz.f175) (by kernel_rfl) (c:=bodyOf Tryz.f175) (by kernel_rfl) (by decide) (ctxOK mixed tbl_ok rfl trivial trivial) (SumOK.of trivial) (by kernel_rfl) Zhy Zlr rfl (by decide) (by decide) rfl (by decide) rfl Z3n (fun x=>by kernel_rfl)
abbrev Zhu:Shape:={ sl:=sl_30,bl:=[],ts:=[y23,y5],pin:=0 }
abbrev Zln:Shape:={ sl:=sl_31,bl:=[],ts:=ts_15,pin:=0 }
def Z3f (x:T30):Option T34 :=
 (Z3j x.1).bind fun r16 =>
 bif (Bool.not r16) then
 some (((0:Int),(0:Int),([]:List T7)),(0:Int),(1:Int))
 else
 bif (decide (x.2.1 < (0:Int))) then
 some (((0:Int),(0:Int),([]:List T7)),(0:Int),(1:Int))
 else
 bif (decide (x.2.2.1 < (0:Int))) then
 some (((0:Int),(0:Int),([]:List T7)),(0:Int),(1:Int))
 else
 bif (decide (x.2.2.2 < (0:Int))) then
 some (((0:Int),(0:Int),([]:List T7)),(0:Int),(1:Int))
 else
 bif (x.1.1 == (((0:Nat):Nat):Int)) then
 (Z3l (x.1,x.2)).bind fun r17 =>
 some (r17.1,r17.2.1,r17.2.2)
 else
 bif (x.1.1 == ((((0:Nat)+(1:Nat)):Nat):Int)) then
 (Z3p (x.1,x.2)).bind fun r17 =>
 some (r17.1,r17.2.1,r17.2.2)
 else
 bif (x.1.1 == (((((0:Nat)+(1:Nat))+(1:Nat)):Nat):Int)) then
 (Z3n (x.1,x.2)).bind fun r17 =>
 some (r17.1,r17.2.1,r17.2.2)
 else
 none
abbrev Zpg:=Spec.shp Zhu Zln Z3f
def Zbn:Ctx:={ tb:=mkTb T2.tbl,fx:=[(118,[],Zpi),(173,[],Zpj),(174,[],Zpl),(175,[],Zpk)],sum:=[],nt:=42,pin:=0,nr:=true,ys:=[] }
theorem Z3g:Sound Tryz.prog 129 (Zpg) :=
 Sound.shp (C:=Zbn) (fn:=Tryz.f129) (by kernel_rfl) (c:=bodyOf Tryz.f129) (by kernel_rfl) (by decide) (ctxOK mixed tbl_ok rfl ⟨Z3k,Z3m,Z3q,Z3o,trivial⟩ trivial) (SumOK.of trivial) (by kernel_rfl) Zhu Zln rfl (by decide) (by decide) rfl (by decide) rfl Z3f (fun x=>by kernel_rfl)
abbrev Zho:Shape:={ sl:=sl_14,bl:=bl_2,ts:=[(.int .i64),(.int .i64),y39,y4,y18,y41,y19,y26,y27],pin:=0 }
abbrev Zlh:Shape:={ sl:=[],bl:=bl_2,ts:=ts_11,pin:=1 }
def Z33 (x:(Int × Int × T47 × (Int × Int) × List (T17) × List T43 × List (T18) × List T29 × List (T20))):Option T57 :=
 (Z26 (x.1,x.2.2.1,x.2.2.2.1,x.2.2.2.2.1,x.2.2.2.2.2.1,x.2.2.2.2.2.2.1,x.2.2.2.2.2.2.2.1,x.2.2.2.2.2.2.2.2)).bind fun r17 =>
 (Z35 (x.1,(15:Int),r17.1.2.1,(0:Int),x.2.1,r17.2.1,r17.2.2.1,r17.2.2.2.1,r17.2.2.2.2.1,r17.2.2.2.2.2.1,r17.2.2.2.2.2.2.1,r17.2.2.2.2.2.2.2)).bind fun r18 =>
 (Z24 (x.1,r17.1.2.2,r18.2.1,r18.2.2.1,r18.2.2.2.1,r18.2.2.2.2.1,r18.2.2.2.2.2.1,r18.2.2.2.2.2.2.1,r18.2.2.2.2.2.2.2)).bind fun r19 =>
 some (r19.1,r19.2.1,r19.2.2.1,r19.2.2.2.1,r19.2.2.2.2.1,r19.2.2.2.2.2.1,r19.2.2.2.2.2.2)
abbrev Zpa:=Spec.shp Zho Zlh Z33
def Zbh:Ctx:={ tb:=mkTb T2.tbl,fx:=[(78,[],Zou),(40,[],Zpb),(41,[],Zot)],sum:=[],nt:=21,pin:=1,nr:=true,ys:=[] }
theorem Z34:Sound Tryz.prog 130 (Zpa) :=
 Sound.shp (C:=Zbh) (fn:=Tryz.f130) (by kernel_rfl) (c:=bodyOf Tryz.f130) (by kernel_rfl) (by decide) (ctxOK mixed tbl_ok rfl ⟨Z27,Z36,Z25,trivial⟩ trivial) (SumOK.of trivial) (by kernel_rfl) Zho Zlh rfl (by decide) (by decide) rfl (by decide) rfl Z33 (fun x=>by kernel_rfl)
abbrev Zh3:Shape:={ sl:=sl_26,bl:=bl_2,ts:=ts_14,pin:=0 }
abbrev Zkw:Shape:={ sl:=[],bl:=bl_2,ts:=ts_11,pin:=1 }
def Z1w (x:T60):Option T57 :=
 (Z35 (x.1.1,(13:Int),x.2.1.2.1,(0:Int),(Int.negSucc 0),x.2.2.1,x.2.2.2.1,x.2.2.2.2.1,x.2.2.2.2.2.1,x.2.2.2.2.2.2.1,x.2.2.2.2.2.2.2.1,x.2.2.2.2.2.2.2.2)).bind fun r14 =>
 bif (inb x.2.1.2.1 (List.length r14.2.2.2.2.2.2.1)) then
 (Z3f ((getAt ((0:Int),(0:Int),([]:List T7)) r14.2.2.2.2.2.2.1 (toN x.2.1.2.1)),x.1.1,(0:Int),r14.1)).bind fun r15 =>
 bif (r15.2.2 != (0:Int)) then
 (Z39 (x.1.1,r14.2.1,r14.2.2.1,r14.2.2.2.1,r14.2.2.2.2.1,r14.2.2.2.2.2.1,r14.2.2.2.2.2.2.1,r14.2.2.2.2.2.2.2)).bind fun r16 =>
 some (r16.1,r16.2.1,r16.2.2.1,r16.2.2.2.1,r16.2.2.2.2.1,r16.2.2.2.2.2.1,r16.2.2.2.2.2.2)
 else
 bif (inb x.2.1.2.1 (List.length r14.2.2.2.2.2.2.1)) then
 bif (r15.2.1 == (0:Int)) then
 (Z22 (x.1.1,r14.2.1,r14.2.2.1,r14.2.2.2.1,r14.2.2.2.2.1,r14.2.2.2.2.2.1,(List.set r14.2.2.2.2.2.2.1 (toN x.2.1.2.1) r15.1),r14.2.2.2.2.2.2.2)).bind fun r16 =>
 some (r16.1,r16.2.1,r16.2.2.1,r16.2.2.2.1,r16.2.2.2.2.1,r16.2.2.2.2.2.1,r16.2.2.2.2.2.2)
 else
 bif (r15.2.1 == (1:Int)) then
 (Z39 (x.1.1,r14.2.1,r14.2.2.1,r14.2.2.2.1,r14.2.2.2.2.1,r14.2.2.2.2.2.1,(List.set r14.2.2.2.2.2.2.1 (toN x.2.1.2.1) r15.1),r14.2.2.2.2.2.2.2)).bind fun r16 =>
 some (r16.1,r16.2.1,r16.2.2.1,r16.2.2.2.1,r16.2.2.2.2.1,r16.2.2.2.2.2.1,r16.2.2.2.2.2.2)
 else
 (Z33 (x.1.1,r14.1,r14.2.1,r14.2.2.1,r14.2.2.2.1,r14.2.2.2.2.1,r14.2.2.2.2.2.1,(List.set r14.2.2.2.2.2.2.1 (toN x.2.1.2.1) r15.1),r14.2.2.2.2.2.2.2)).bind fun r16 =>
 some (r16.1,r16.2.1,r16.2.2.1,r16.2.2.2.1,r16.2.2.2.2.1,r16.2.2.2.2.2.1,r16.2.2.2.2.2.2)
 else
 none
 else
 none
abbrev Zop:=Spec.shp Zh3 Zkw Z1w
def Zas:Ctx:={ tb:=mkTb T2.tbl,fx:=[(40,[],Zpb),(129,[],Zpg),(125,[],Zpd),(120,[],Zos),(130,[],Zpa)],sum:=[],nt:=67,pin:=1,nr:=true,ys:=[] }
theorem Z1x:Sound Tryz.prog 71 (Zop) :=
 Sound.shp (C:=Zas) (fn:=Tryz.f71) (by kernel_rfl) (c:=bodyOf Tryz.f71) (by kernel_rfl) (by decide) (ctxOK mixed tbl_ok rfl ⟨Z36,Z3g,Z3a,Z23,Z34,trivial⟩ trivial) (SumOK.of trivial) (by kernel_rfl) Zh3 Zkw rfl (by decide) (by decide) rfl (by decide) rfl Z1w (fun x=>by kernel_rfl)
abbrev Zhv:Shape:={ sl:=[(0,(.hole y23)),(1,(.hole (.int .i64)))],bl:=[],ts:=[y23,(.int .i64)],pin:=0 }
abbrev Zlo:Shape:={ sl:=[(0,(.hole y23)),(1,(.hole (.slice y5))),(2,(.hole (.int .i64)))],bl:=[],ts:=[y23,(.slice y5),(.int .i64)],pin:=0 }
def Z3h (x:((Int × T13) × Int)):Option ((Int × T13) × List (T7) × Int) :=
 (Z3j x.1).bind fun r15 =>
 bif (Bool.not r15) then
 some (((0:Int),(0:Int),([]:List T7)),([]:List T7),(1:Int))
 else
 bif (decide (x.2 < (0:Int))) then
 some (((0:Int),(0:Int),([]:List T7)),([]:List T7),(1:Int))
 else
 bif (x.1.1 != (1:Int)) then
 some (((0:Int),(0:Int),([]:List T7)),([]:List T7),(6:Int))
 else
 bif (x.1.2.1 != x.2) then
 some (((0:Int),(0:Int),([]:List T7)),([]:List T7),(6:Int))
 else
 some (((2:Int),(0:Int),([]:List T7)),x.1.2.2,(0:Int))
abbrev Zph:=Spec.shp Zhv Zlo Z3h
def Zbo:Ctx:={ tb:=mkTb T2.tbl,fx:=[(118,[],Zpi)],sum:=[],nt:=30,pin:=0,nr:=true,ys:=[] }
theorem Z3i:Sound Tryz.prog 131 (Zph) :=
 Sound.shp (C:=Zbo) (fn:=Tryz.f131) (by kernel_rfl) (c:=bodyOf Tryz.f131) (by kernel_rfl) (by decide) (ctxOK mixed tbl_ok rfl ⟨Z3k,trivial⟩ trivial) (SumOK.of trivial) (by kernel_rfl) Zhv Zlo rfl (by decide) (by decide) rfl (by decide) rfl Z3h (fun x=>by kernel_rfl)
abbrev Zfi:Shape:={ sl:=[(0,(.ptr 0 [])),(52,(.hole (.slice y5))),(53,(.hole (.int .i64))),(54,(.hole (.int .i64)))],bl:=bl_2,ts:=[(.slice y5),(.int .i64),(.int .i64),y39,y4,y18,y41,y19,y26,y27],pin:=1 }
abbrev Zem:List (ETag × Shape):=[(.exit 0,{ sl:=[],bl:=bl_2,ts:=ts_11,pin:=1 })]
def Z89 (x:(List (T7) × Int × Int × T47 × (Int × Int) × List (T17) × List T43 × List (T18) × List T29 × List (T20))):Option ((List (T7) × Int × Int × T47 × (Int × Int) × List (T17) × List T43 × List (T18) × List T29 × List (T20)) ⊕ (T57)) :=
 bif (decide (x.2.2.1 < x.2.1)) then
 bif (inb x.2.2.1 (List.length x.1)) then
 (Z33 ((getAt ((0:Int),(0:Int),(0:Int)) x.1 (toN x.2.2.1)).1,(getAt ((0:Int),(0:Int),(0:Int)) x.1 (toN x.2.2.1)).2.2,x.2.2.2.1,x.2.2.2.2.1,x.2.2.2.2.2.1,x.2.2.2.2.2.2.1,x.2.2.2.2.2.2.2.1,x.2.2.2.2.2.2.2.2.1,x.2.2.2.2.2.2.2.2.2)).bind fun r18 =>
 some (.inl (x.1,x.2.1,(IntKind.wrap .i64 (x.2.2.1+(1:Int))),r18.1,r18.2.1,r18.2.2.1,r18.2.2.2.1,r18.2.2.2.2.1,r18.2.2.2.2.2.1,r18.2.2.2.2.2.2))
 else
 none
 else
 some (.inr (x.2.2.2.1,x.2.2.2.2.1,x.2.2.2.2.2.1,x.2.2.2.2.2.2.1,x.2.2.2.2.2.2.2.1,x.2.2.2.2.2.2.2.2.1,x.2.2.2.2.2.2.2.2.2))
def Zaw:Ctx:={ tb:=mkTb T2.tbl,fx:=[(131,[],Zph),(40,[],Zpb),(120,[],Zos),(130,[],Zpa)],sum:=[],nt:=65,pin:=1,nr:=true,ys:=[] }
theorem Z8a:CSound Tryz.prog ⟨65,1,true⟩ (.loop (loopOf 9 Tryz.f72)) (Yau Zfi Zem (loop Z89)) :=
 Y8b (C:=Zaw) (ctxOK mixed tbl_ok rfl ⟨Z3i,Z36,Z23,Z34,trivial⟩ trivial) (SumOK.of trivial) Zfi Zem rfl rfl Z89 (fun x=>by kernel_rfl)
abbrev Zh5:Shape:={ sl:=sl_26,bl:=bl_2,ts:=ts_14,pin:=0 }
abbrev Zky:Shape:={ sl:=[],bl:=bl_2,ts:=ts_11,pin:=1 }
def Z20 (x:T60):Option T57 :=
 bif (inb x.2.1.2.1 (List.length x.2.2.2.2.2.2.2.1)) then
 (Z3h ((getAt ((0:Int),(0:Int),([]:List T7)) x.2.2.2.2.2.2.2.1 (toN x.2.1.2.1)),x.1.1)).bind fun r14 =>
 bif (r14.2.2 != (0:Int)) then
 some (x.2.2.1,(x.2.2.2.1.1,(3:Int)),x.2.2.2.2.1,x.2.2.2.2.2.1,x.2.2.2.2.2.2.1,x.2.2.2.2.2.2.2.1,x.2.2.2.2.2.2.2.2)
 else
 bif (inb x.2.1.2.1 (List.length x.2.2.2.2.2.2.2.1)) then
 (Z35 (x.1.1,(14:Int),x.2.1.2.1,(0:Int),(Int.negSucc 0),x.2.2.1,x.2.2.2.1,x.2.2.2.2.1,x.2.2.2.2.2.1,x.2.2.2.2.2.2.1,(List.set x.2.2.2.2.2.2.2.1 (toN x.2.1.2.1) r14.1),x.2.2.2.2.2.2.2.2)).bind fun r15 =>
 (Z22 (x.1.1,r15.2.1,r15.2.2.1,r15.2.2.2.1,r15.2.2.2.2.1,r15.2.2.2.2.2.1,r15.2.2.2.2.2.2.1,r15.2.2.2.2.2.2.2)).bind fun r16 =>
 (loop Z89 (r14.2.1,(((List.length r14.2.1):Nat):Int),(0:Int),r16.1,r16.2.1,r16.2.2.1,r16.2.2.2.1,r16.2.2.2.2.1,r16.2.2.2.2.2.1,r16.2.2.2.2.2.2)).bind fun r17 =>
 some (r17.1,r17.2.1,r17.2.2.1,r17.2.2.2.1,r17.2.2.2.2.1,r17.2.2.2.2.2.1,r17.2.2.2.2.2.2)
 else
 none
 else
 none
abbrev Zor:=Spec.shp Zh5 Zky Z20
def Zav:Ctx:={ tb:=mkTb T2.tbl,fx:=[(131,[],Zph),(40,[],Zpb),(120,[],Zos),(130,[],Zpa)],sum:=[(0,9,Yau Zfi Zem (loop Z89))],nt:=65,pin:=1,nr:=true,ys:=[] }
theorem Z21:Sound Tryz.prog 72 (Zor) :=
 Sound.shp (C:=Zav) (fn:=Tryz.f72) (by kernel_rfl) (c:=bodyOf Tryz.f72) (by kernel_rfl) (by decide) (ctxOK mixed tbl_ok rfl ⟨Z3i,Z36,Z23,Z34,trivial⟩ trivial) (SumOK.of ⟨(Yaw (d:=.loop (loopOf 9 Tryz.f72)) (by kernel_rfl) Z8a),trivial⟩) (by kernel_rfl) Zh5 Zky rfl (by decide) (by decide) rfl (by decide) rfl Z20 (fun x=>by kernel_rfl)
abbrev Zh2:Shape:={ sl:=sl_26,bl:=bl_2,ts:=ts_14,pin:=0 }
abbrev Zkv:Shape:={ sl:=[],bl:=bl_2,ts:=ts_11,pin:=1 }
def Z1u (x:T60):Option T57 :=
 bif ((((List.length x.2.2.2.2.1):Nat):Int) == (8:Int)) then
 some (x.2.2.1,(x.2.2.2.1.1,(4:Int)),x.2.2.2.2.1,x.2.2.2.2.2.1,x.2.2.2.2.2.2.1,x.2.2.2.2.2.2.2.1,x.2.2.2.2.2.2.2.2)
 else
 (Z35 (x.1.1,(1:Int),(((List.length x.2.2.2.2.1):Nat):Int),(0:Int),(Int.negSucc 0),x.2.2.1,x.2.2.2.1,x.2.2.2.2.1,x.2.2.2.2.2.1,x.2.2.2.2.2.2.1,x.2.2.2.2.2.2.2.1,x.2.2.2.2.2.2.2.2)).bind fun r14 =>
 (Z35 ((((List.length x.2.2.2.2.1):Nat):Int),(0:Int),(0:Int),(0:Int),r14.1,r14.2.1,r14.2.2.1,r14.2.2.2.1,r14.2.2.2.2.1,r14.2.2.2.2.2.1,r14.2.2.2.2.2.2.1,r14.2.2.2.2.2.2.2)).bind fun r15 =>
 bif (fits ((List.length r15.2.2.2.1)+(List.length ((x.2.1.2.1,(0:Int),(0:Int),false) :: ([]:List T17))))) then
 (Z24 ((((List.length x.2.2.2.2.1):Nat):Int),(0:Int),r15.2.1,r15.2.2.1,(r15.2.2.2.1++((x.2.1.2.1,(0:Int),(0:Int),false) :: ([]:List T17))),r15.2.2.2.2.1,r15.2.2.2.2.2.1,r15.2.2.2.2.2.2.1,r15.2.2.2.2.2.2.2)).bind fun r16 =>
 (Z22 (x.1.1,r16.1,r16.2.1,r16.2.2.1,r16.2.2.2.1,r16.2.2.2.2.1,r16.2.2.2.2.2.1,r16.2.2.2.2.2.2)).bind fun r17 =>
 some (r17.1,r17.2.1,r17.2.2.1,r17.2.2.2.1,r17.2.2.2.2.1,r17.2.2.2.2.2.1,r17.2.2.2.2.2.2)
 else
 none
abbrev Zoo:=Spec.shp Zh2 Zkv Z1u
def Zar:Ctx:={ tb:=mkTb T2.tbl,fx:=[(40,[],Zpb),(41,[],Zot),(120,[],Zos)],sum:=[],nt:=50,pin:=1,nr:=true,ys:=[] }
theorem Z1v:Sound Tryz.prog 73 (Zoo) :=
 Sound.shp (C:=Zar) (fn:=Tryz.f73) (by kernel_rfl) (c:=bodyOf Tryz.f73) (by kernel_rfl) (by decide) (ctxOK mixed tbl_ok rfl ⟨Z36,Z25,Z23,trivial⟩ trivial) (SumOK.of trivial) (by kernel_rfl) Zh2 Zkv rfl (by decide) (by decide) rfl (by decide) rfl Z1u (fun x=>by kernel_rfl)
abbrev Zhg:Shape:={ sl:=sl_26,bl:=bl_2,ts:=ts_14,pin:=0 }
abbrev Zl9:Shape:={ sl:=[],bl:=bl_2,ts:=ts_11,pin:=1 }
def Z2m (x:T60):Option T57 :=
 (Z35 (x.1.1,(16:Int),x.2.1.2.1,(0:Int),(Int.negSucc 0),x.2.2.1,x.2.2.2.1,x.2.2.2.2.1,x.2.2.2.2.2.1,x.2.2.2.2.2.2.1,x.2.2.2.2.2.2.2.1,x.2.2.2.2.2.2.2.2)).bind fun r14 =>
 (Z22 (x.1.1,r14.2.1,r14.2.2.1,r14.2.2.2.1,r14.2.2.2.2.1,r14.2.2.2.2.2.1,r14.2.2.2.2.2.2.1,r14.2.2.2.2.2.2.2)).bind fun r15 =>
 some (r15.1,r15.2.1,r15.2.2.1,r15.2.2.2.1,r15.2.2.2.2.1,r15.2.2.2.2.2.1,r15.2.2.2.2.2.2)
abbrev Zp2:=Spec.shp Zhg Zl9 Z2m
def Zb7:Ctx:={ tb:=mkTb T2.tbl,fx:=[(40,[],Zpb),(120,[],Zos)],sum:=[],nt:=16,pin:=1,nr:=true,ys:=[] }
theorem Z2n:Sound Tryz.prog 74 (Zp2) :=
 Sound.shp (C:=Zb7) (fn:=Tryz.f74) (by kernel_rfl) (c:=bodyOf Tryz.f74) (by kernel_rfl) (by decide) (ctxOK mixed tbl_ok rfl ⟨Z36,Z23,trivial⟩ trivial) (SumOK.of trivial) (by kernel_rfl) Zhg Zl9 rfl (by decide) (by decide) rfl (by decide) rfl Z2m (fun x=>by kernel_rfl)
abbrev Zhs:Shape:={ sl:=sl_26,bl:=bl_2,ts:=ts_14,pin:=0 }
abbrev Zll:Shape:={ sl:=[],bl:=bl_2,ts:=ts_11,pin:=1 }
def Z3b (x:T60):Option T57 :=
 (Z35 (x.1.1,(17:Int),x.2.1.2.1,(0:Int),(Int.negSucc 0),x.2.2.1,x.2.2.2.1,x.2.2.2.2.1,x.2.2.2.2.2.1,x.2.2.2.2.2.2.1,x.2.2.2.2.2.2.2.1,x.2.2.2.2.2.2.2.2)).bind fun r14 =>
 (Z22 (x.1.1,r14.2.1,r14.2.2.1,r14.2.2.2.1,r14.2.2.2.2.1,r14.2.2.2.2.2.1,r14.2.2.2.2.2.2.1,r14.2.2.2.2.2.2.2)).bind fun r15 =>
 some (r15.1,r15.2.1,r15.2.2.1,r15.2.2.2.1,r15.2.2.2.2.1,r15.2.2.2.2.2.1,r15.2.2.2.2.2.2)
abbrev Zpe:=Spec.shp Zhs Zll Z3b
def Zbl:Ctx:={ tb:=mkTb T2.tbl,fx:=[(40,[],Zpb),(120,[],Zos)],sum:=[],nt:=16,pin:=1,nr:=true,ys:=[] }
theorem Z3c:Sound Tryz.prog 75 (Zpe) :=
 Sound.shp (C:=Zbl) (fn:=Tryz.f75) (by kernel_rfl) (c:=bodyOf Tryz.f75) (by kernel_rfl) (by decide) (ctxOK mixed tbl_ok rfl ⟨Z36,Z23,trivial⟩ trivial) (SumOK.of trivial) (by kernel_rfl) Zhs Zll rfl (by decide) (by decide) rfl (by decide) rfl Z3b (fun x=>by kernel_rfl)
abbrev Zh9:Shape:={ sl:=sl_26,bl:=bl_2,ts:=ts_14,pin:=0 }
abbrev Zl2:Shape:={ sl:=[],bl:=bl_2,ts:=ts_11,pin:=1 }
def Z28 (x:T60):Option T57 :=
 (Z24 (x.1.1,x.2.1.2.1,x.2.2.1,x.2.2.2.1,x.2.2.2.2.1,x.2.2.2.2.2.1,x.2.2.2.2.2.2.1,x.2.2.2.2.2.2.2.1,x.2.2.2.2.2.2.2.2)).bind fun r14 =>
 some (r14.1,r14.2.1,r14.2.2.1,r14.2.2.2.1,r14.2.2.2.2.1,r14.2.2.2.2.2.1,r14.2.2.2.2.2.2)
abbrev Zov:=Spec.shp Zh9 Zl2 Z28
def Zb0:Ctx:={ tb:=mkTb T2.tbl,fx:=[(41,[],Zot)],sum:=[],nt:=12,pin:=1,nr:=true,ys:=[] }
theorem Z29:Sound Tryz.prog 76 (Zov) :=
 Sound.shp (C:=Zb0) (fn:=Tryz.f76) (by kernel_rfl) (c:=bodyOf Tryz.f76) (by kernel_rfl) (by decide) (ctxOK mixed tbl_ok rfl ⟨Z25,trivial⟩ trivial) (SumOK.of trivial) (by kernel_rfl) Zh9 Zl2 rfl (by decide) (by decide) rfl (by decide) rfl Z28 (fun x=>by kernel_rfl)
abbrev Zhe:Shape:={ sl:=sl_26,bl:=bl_2,ts:=ts_14,pin:=0 }
abbrev Zl7:Shape:={ sl:=[],bl:=bl_2,ts:=ts_11,pin:=1 }
def Z2i (x:T60):Option T57 :=
 bif (inb x.1.1 (List.length x.2.2.2.2.1)) then
 bif (getAt ((0:Int),(0:Int),(0:Int),false) x.2.2.2.2.1 (toN x.1.1)).2.2.2 then
 (Z28 (x.1,x.2.1,x.2.2.1,x.2.2.2.1,x.2.2.2.2.1,x.2.2.2.2.2.1,x.2.2.2.2.2.2.1,x.2.2.2.2.2.2.2.1,x.2.2.2.2.2.2.2.2)).bind fun r14 =>
 some (r14.1,r14.2.1,r14.2.2.1,r14.2.2.2.1,r14.2.2.2.2.1,r14.2.2.2.2.2.1,r14.2.2.2.2.2.2)
 else
 (Z22 (x.1.1,x.2.2.1,x.2.2.2.1,x.2.2.2.2.1,x.2.2.2.2.2.1,x.2.2.2.2.2.2.1,x.2.2.2.2.2.2.2.1,x.2.2.2.2.2.2.2.2)).bind fun r14 =>
 some (r14.1,r14.2.1,r14.2.2.1,r14.2.2.2.1,r14.2.2.2.2.1,r14.2.2.2.2.2.1,r14.2.2.2.2.2.2)
 else
 none
abbrev Zp0:=Spec.shp Zhe Zl7 Z2i
def Zb5:Ctx:={ tb:=mkTb T2.tbl,fx:=[(76,[],Zov),(120,[],Zos)],sum:=[],nt:=24,pin:=1,nr:=true,ys:=[] }
theorem Z2j:Sound Tryz.prog 77 (Zp0) :=
 Sound.shp (C:=Zb5) (fn:=Tryz.f77) (by kernel_rfl) (c:=bodyOf Tryz.f77) (by kernel_rfl) (by decide) (ctxOK mixed tbl_ok rfl ⟨Z29,Z23,trivial⟩ trivial) (SumOK.of trivial) (by kernel_rfl) Zhe Zl7 rfl (by decide) (by decide) rfl (by decide) rfl Z2i (fun x=>by kernel_rfl)
abbrev Zgs:Shape:={ sl:=[(0,(.hole y45)),(1,(.hole y4))],bl:=[],ts:=[y45,y4],pin:=0 }
abbrev Zkl:Shape:={ sl:=[(0,(.hole y45)),(1,(.hole y27)),(2,(.hole (.int .i64)))],bl:=[],ts:=[y45,y27,(.int .i64)],pin:=0 }
def Z1a (x:((T47 × T61) × (Int × Int))):Option ((T47 × T61) × List (T20) × Int) :=
 (Z16 x.1).bind fun r6 =>
 (Z6l (r6,x.2)).bind fun r7 =>
 bif (Bool.not r7) then
 some (((([]:List Int),(0:Int),(0:Int),(0:Int),([]:List T21),([]:List (List T7))),([]:List T17),([]:List (Int × T41)),([]:List T22),([]:List (Int × T14)),(0:Int),(0:Int)),([]:List T20),(4:Int))
 else
 (Z5x x.1.2.1).bind fun r8 =>
 (Z5t x.1.2.2.1).bind fun r9 =>
 (Z5z x.1.2.2.2.1).bind fun r10 =>
 (Z61 x.1.2.2.2.2.1).bind fun r11 =>
 (Z26 (x.2.1,x.1.1,x.1.2.2.2.2.2,r8,r9,r10,r11,([]:List T20))).bind fun r12 =>
 bif (r12.1.1 == (((0:Nat):Nat):Int)) then
 (Z2e (x.2,r12.1,r12.2.1,r12.2.2.1,r12.2.2.2.1,r12.2.2.2.2.1,r12.2.2.2.2.2.1,r12.2.2.2.2.2.2.1,r12.2.2.2.2.2.2.2)).bind fun r13 =>
 (Z2u (r13.1,r13.2.1,r13.2.2.1,r13.2.2.2.1,r13.2.2.2.2.1,r13.2.2.2.2.2.1,r13.2.2.2.2.2.2)).bind fun r14 =>
 some ((r14.1,r14.2.2.1,r14.2.2.2.1,r14.2.2.2.2.1,r14.2.2.2.2.2.1,r14.2.1),r14.2.2.2.2.2.2,(0:Int))
 else
 bif (r12.1.1 == ((((0:Nat)+(1:Nat)):Nat):Int)) then
 (Z2s (x.2,r12.1,r12.2.1,r12.2.2.1,r12.2.2.2.1,r12.2.2.2.2.1,r12.2.2.2.2.2.1,r12.2.2.2.2.2.2.1,r12.2.2.2.2.2.2.2)).bind fun r13 =>
 (Z2u (r13.1,r13.2.1,r13.2.2.1,r13.2.2.2.1,r13.2.2.2.2.1,r13.2.2.2.2.2.1,r13.2.2.2.2.2.2)).bind fun r14 =>
 some ((r14.1,r14.2.2.1,r14.2.2.2.1,r14.2.2.2.2.1,r14.2.2.2.2.2.1,r14.2.1),r14.2.2.2.2.2.2,(0:Int))
 else
 bif (r12.1.1 == (((((0:Nat)+(1:Nat))+(1:Nat)):Nat):Int)) then
 (Z2o (x.2,r12.1,r12.2.1,r12.2.2.1,r12.2.2.2.1,r12.2.2.2.2.1,r12.2.2.2.2.2.1,r12.2.2.2.2.2.2.1,r12.2.2.2.2.2.2.2)).bind fun r13 =>
 (Z2u (r13.1,r13.2.1,r13.2.2.1,r13.2.2.2.1,r13.2.2.2.2.1,r13.2.2.2.2.2.1,r13.2.2.2.2.2.2)).bind fun r14 =>
 some ((r14.1,r14.2.2.1,r14.2.2.2.1,r14.2.2.2.2.1,r14.2.2.2.2.2.1,r14.2.1),r14.2.2.2.2.2.2,(0:Int))
 else
 bif (r12.1.1 == ((((((0:Nat)+(1:Nat))+(1:Nat))+(1:Nat)):Nat):Int)) then
 (Z31 (x.2,r12.1,r12.2.1,r12.2.2.1,r12.2.2.2.1,r12.2.2.2.2.1,r12.2.2.2.2.2.1,r12.2.2.2.2.2.2.1,r12.2.2.2.2.2.2.2)).bind fun r13 =>
 (Z2u (r13.1,r13.2.1,r13.2.2.1,r13.2.2.2.1,r13.2.2.2.2.1,r13.2.2.2.2.2.1,r13.2.2.2.2.2.2)).bind fun r14 =>
 some ((r14.1,r14.2.2.1,r14.2.2.2.1,r14.2.2.2.2.1,r14.2.2.2.2.2.1,r14.2.1),r14.2.2.2.2.2.2,(0:Int))
 else
 bif (r12.1.1 == (((((((0:Nat)+(1:Nat))+(1:Nat))+(1:Nat))+(1:Nat)):Nat):Int)) then
 (Z2q (x.2,r12.1,r12.2.1,r12.2.2.1,r12.2.2.2.1,r12.2.2.2.2.1,r12.2.2.2.2.2.1,r12.2.2.2.2.2.2.1,r12.2.2.2.2.2.2.2)).bind fun r13 =>
 (Z2u (r13.1,r13.2.1,r13.2.2.1,r13.2.2.2.1,r13.2.2.2.2.1,r13.2.2.2.2.2.1,r13.2.2.2.2.2.2)).bind fun r14 =>
 some ((r14.1,r14.2.2.1,r14.2.2.2.1,r14.2.2.2.2.1,r14.2.2.2.2.2.1,r14.2.1),r14.2.2.2.2.2.2,(0:Int))
 else
 bif (r12.1.1 == ((((((((0:Nat)+(1:Nat))+(1:Nat))+(1:Nat))+(1:Nat))+(1:Nat)):Nat):Int)) then
 (Z2a (x.2,r12.1,r12.2.1,r12.2.2.1,r12.2.2.2.1,r12.2.2.2.2.1,r12.2.2.2.2.2.1,r12.2.2.2.2.2.2.1,r12.2.2.2.2.2.2.2)).bind fun r13 =>
 (Z2u (r13.1,r13.2.1,r13.2.2.1,r13.2.2.2.1,r13.2.2.2.2.1,r13.2.2.2.2.2.1,r13.2.2.2.2.2.2)).bind fun r14 =>
 some ((r14.1,r14.2.2.1,r14.2.2.2.1,r14.2.2.2.2.1,r14.2.2.2.2.2.1,r14.2.1),r14.2.2.2.2.2.2,(0:Int))
 else
 bif (r12.1.1 == (((((((((0:Nat)+(1:Nat))+(1:Nat))+(1:Nat))+(1:Nat))+(1:Nat))+(1:Nat)):Nat):Int)) then
 (Z37 (x.2,r12.1,r12.2.1,r12.2.2.1,r12.2.2.2.1,r12.2.2.2.2.1,r12.2.2.2.2.2.1,r12.2.2.2.2.2.2.1,r12.2.2.2.2.2.2.2)).bind fun r13 =>
 (Z2u (r13.1,r13.2.1,r13.2.2.1,r13.2.2.2.1,r13.2.2.2.2.1,r13.2.2.2.2.2.1,r13.2.2.2.2.2.2)).bind fun r14 =>
 some ((r14.1,r14.2.2.1,r14.2.2.2.1,r14.2.2.2.2.1,r14.2.2.2.2.2.1,r14.2.1),r14.2.2.2.2.2.2,(0:Int))
 else
 bif (r12.1.1 == ((((((((((0:Nat)+(1:Nat))+(1:Nat))+(1:Nat))+(1:Nat))+(1:Nat))+(1:Nat))+(1:Nat)):Nat):Int)) then
 (Z1w (x.2,r12.1,r12.2.1,r12.2.2.1,r12.2.2.2.1,r12.2.2.2.2.1,r12.2.2.2.2.2.1,r12.2.2.2.2.2.2.1,r12.2.2.2.2.2.2.2)).bind fun r13 =>
 (Z2u (r13.1,r13.2.1,r13.2.2.1,r13.2.2.2.1,r13.2.2.2.2.1,r13.2.2.2.2.2.1,r13.2.2.2.2.2.2)).bind fun r14 =>
 some ((r14.1,r14.2.2.1,r14.2.2.2.1,r14.2.2.2.2.1,r14.2.2.2.2.2.1,r14.2.1),r14.2.2.2.2.2.2,(0:Int))
 else
 bif (r12.1.1 == (((((((((((0:Nat)+(1:Nat))+(1:Nat))+(1:Nat))+(1:Nat))+(1:Nat))+(1:Nat))+(1:Nat))+(1:Nat)):Nat):Int)) then
 (Z20 (x.2,r12.1,r12.2.1,r12.2.2.1,r12.2.2.2.1,r12.2.2.2.2.1,r12.2.2.2.2.2.1,r12.2.2.2.2.2.2.1,r12.2.2.2.2.2.2.2)).bind fun r13 =>
 (Z2u (r13.1,r13.2.1,r13.2.2.1,r13.2.2.2.1,r13.2.2.2.2.1,r13.2.2.2.2.2.1,r13.2.2.2.2.2.2)).bind fun r14 =>
 some ((r14.1,r14.2.2.1,r14.2.2.2.1,r14.2.2.2.2.1,r14.2.2.2.2.2.1,r14.2.1),r14.2.2.2.2.2.2,(0:Int))
 else
 bif (r12.1.1 == ((((((((((((0:Nat)+(1:Nat))+(1:Nat))+(1:Nat))+(1:Nat))+(1:Nat))+(1:Nat))+(1:Nat))+(1:Nat))+(1:Nat)):Nat):Int)) then
 (Z1u (x.2,r12.1,r12.2.1,r12.2.2.1,r12.2.2.2.1,r12.2.2.2.2.1,r12.2.2.2.2.2.1,r12.2.2.2.2.2.2.1,r12.2.2.2.2.2.2.2)).bind fun r13 =>
 (Z2u (r13.1,r13.2.1,r13.2.2.1,r13.2.2.2.1,r13.2.2.2.2.1,r13.2.2.2.2.2.1,r13.2.2.2.2.2.2)).bind fun r14 =>
 some ((r14.1,r14.2.2.1,r14.2.2.2.1,r14.2.2.2.2.1,r14.2.2.2.2.2.1,r14.2.1),r14.2.2.2.2.2.2,(0:Int))
 else
 bif (r12.1.1 == (((((((((((((0:Nat)+(1:Nat))+(1:Nat))+(1:Nat))+(1:Nat))+(1:Nat))+(1:Nat))+(1:Nat))+(1:Nat))+(1:Nat))+(1:Nat)):Nat):Int)) then
 (Z2m (x.2,r12.1,r12.2.1,r12.2.2.1,r12.2.2.2.1,r12.2.2.2.2.1,r12.2.2.2.2.2.1,r12.2.2.2.2.2.2.1,r12.2.2.2.2.2.2.2)).bind fun r13 =>
 (Z2u (r13.1,r13.2.1,r13.2.2.1,r13.2.2.2.1,r13.2.2.2.2.1,r13.2.2.2.2.2.1,r13.2.2.2.2.2.2)).bind fun r14 =>
 some ((r14.1,r14.2.2.1,r14.2.2.2.1,r14.2.2.2.2.1,r14.2.2.2.2.2.1,r14.2.1),r14.2.2.2.2.2.2,(0:Int))
 else
 bif (r12.1.1 == ((((((((((((((0:Nat)+(1:Nat))+(1:Nat))+(1:Nat))+(1:Nat))+(1:Nat))+(1:Nat))+(1:Nat))+(1:Nat))+(1:Nat))+(1:Nat))+(1:Nat)):Nat):Int)) then
 (Z3b (x.2,r12.1,r12.2.1,r12.2.2.1,r12.2.2.2.1,r12.2.2.2.2.1,r12.2.2.2.2.2.1,r12.2.2.2.2.2.2.1,r12.2.2.2.2.2.2.2)).bind fun r13 =>
 (Z2u (r13.1,r13.2.1,r13.2.2.1,r13.2.2.2.1,r13.2.2.2.2.1,r13.2.2.2.2.2.1,r13.2.2.2.2.2.2)).bind fun r14 =>
 some ((r14.1,r14.2.2.1,r14.2.2.2.1,r14.2.2.2.2.1,r14.2.2.2.2.2.1,r14.2.1),r14.2.2.2.2.2.2,(0:Int))
 else
 bif (r12.1.1 == (((((((((((((((0:Nat)+(1:Nat))+(1:Nat))+(1:Nat))+(1:Nat))+(1:Nat))+(1:Nat))+(1:Nat))+(1:Nat))+(1:Nat))+(1:Nat))+(1:Nat))+(1:Nat)):Nat):Int)) then
 (Z28 (x.2,r12.1,r12.2.1,r12.2.2.1,r12.2.2.2.1,r12.2.2.2.2.1,r12.2.2.2.2.2.1,r12.2.2.2.2.2.2.1,r12.2.2.2.2.2.2.2)).bind fun r13 =>
 (Z2u (r13.1,r13.2.1,r13.2.2.1,r13.2.2.2.1,r13.2.2.2.2.1,r13.2.2.2.2.2.1,r13.2.2.2.2.2.2)).bind fun r14 =>
 some ((r14.1,r14.2.2.1,r14.2.2.2.1,r14.2.2.2.2.1,r14.2.2.2.2.2.1,r14.2.1),r14.2.2.2.2.2.2,(0:Int))
 else
 bif (r12.1.1 == ((((((((((((((((0:Nat)+(1:Nat))+(1:Nat))+(1:Nat))+(1:Nat))+(1:Nat))+(1:Nat))+(1:Nat))+(1:Nat))+(1:Nat))+(1:Nat))+(1:Nat))+(1:Nat))+(1:Nat)):Nat):Int)) then
 (Z2i (x.2,r12.1,r12.2.1,r12.2.2.1,r12.2.2.2.1,r12.2.2.2.2.1,r12.2.2.2.2.2.1,r12.2.2.2.2.2.2.1,r12.2.2.2.2.2.2.2)).bind fun r13 =>
 (Z2u (r13.1,r13.2.1,r13.2.2.1,r13.2.2.2.1,r13.2.2.2.2.1,r13.2.2.2.2.2.1,r13.2.2.2.2.2.2)).bind fun r14 =>
 some ((r14.1,r14.2.2.1,r14.2.2.2.1,r14.2.2.2.2.1,r14.2.2.2.2.2.1,r14.2.1),r14.2.2.2.2.2.2,(0:Int))
 else
 none
abbrev Zoe:=Spec.shp Zgs Zkl Z1a
def Zad:Ctx:={ tb:=mkTb T2.tbl,fx:=[(22,[],Zoc),(59,[],Zqz),(60,[],Zqn),(61,[],Zql),(62,[],Zqo),(63,[],Zqp),(78,[],Zou),(64,[],Zoy),(42,[],Zp6),(65,[],Zp5),(66,[],Zp3),(67,[],Zp9),(68,[],Zp4),(69,[],Zow),(70,[],Zpc),(71,[],Zop),(72,[],Zor),(73,[],Zoo),(74,[],Zp2),(75,[],Zpe),(76,[],Zov),(77,[],Zp0)],sum:=[],nt:=70,pin:=0,nr:=true,ys:=[] }
theorem Z1b:Sound Tryz.prog 23 (Zoe) :=
 Sound.shp (C:=Zad) (fn:=Tryz.f23) (by kernel_rfl) (c:=bodyOf Tryz.f23) (by kernel_rfl) (by decide) (ctxOK mixed tbl_ok rfl ⟨Z17,Z6m,Z5y,Z5u,Z60,Z62,Z27,Z2f,Z30,Z2t,Z2p,Z32,Z2r,Z2b,Z38,Z1x,Z21,Z1v,Z2n,Z3c,Z29,Z2j,trivial⟩ trivial) (SumOK.of trivial) (by kernel_rfl) Zgs Zkl rfl (by decide) (by decide) rfl (by decide) rfl Z1a (fun x=>by kernel_rfl)
def Z8g (x:T55):Option (T55 ⊕ (T47 × Int × Int × Int × List (T12))) :=
 bif (decide (x.2.2.1 < x.2.1)) then
 bif (inb x.2.2.1 (List.length x.1)) then
 bif (sub3 (0:Int) (Min.min (((List.length (getAt (([]:List T0),false) x.1 (toN x.2.2.1)).1):Nat):Int) (6:Int)) (List.length (getAt (([]:List T0),false) x.1 (toN x.2.2.1)).1)) then
 bif (fits ((List.length x.2.2.2.2.2.2.2)+(List.length (((cut (getAt (([]:List T0),false) x.1 (toN x.2.2.1)).1 (toN (0:Int)) ((toN (Min.min (((List.length (getAt (([]:List T0),false) x.1 (toN x.2.2.1)).1):Nat):Int) (6:Int))) - (toN (0:Int)))),(getAt (([]:List T0),false) x.1 (toN x.2.2.1)).2) :: ([]:List T21))))) then
 some (.inl (x.1,x.2.1,(IntKind.wrap .i64 (x.2.2.1+(1:Int))),x.2.2.2.1,x.2.2.2.2.1,x.2.2.2.2.2.1,x.2.2.2.2.2.2.1,(x.2.2.2.2.2.2.2++(((cut (getAt (([]:List T0),false) x.1 (toN x.2.2.1)).1 (toN (0:Int)) ((toN (Min.min (((List.length (getAt (([]:List T0),false) x.1 (toN x.2.2.1)).1):Nat):Int) (6:Int))) - (toN (0:Int)))),(getAt (([]:List T0),false) x.1 (toN x.2.2.1)).2) :: ([]:List T21)))))
 else
 none
 else
 none
 else
 none
 else
 some (.inr (x.2.2.2.1,x.2.2.2.2.1,x.2.2.2.2.2.1,x.2.2.2.2.2.2.1,x.2.2.2.2.2.2.2))
def Z8f (x:T59):Option (T59 ⊕ (T47 × Int × Int × Int × List (T12) × List (List (T7)))) :=
 bif (decide (x.2.2.1 < x.2.1)) then
 bif (inb x.2.2.1 (List.length x.1)) then
 bif (sub3 (0:Int) (Min.min (((List.length (getAt ([]:List T7) x.1 (toN x.2.2.1))):Nat):Int) (30:Int)) (List.length (getAt ([]:List T7) x.1 (toN x.2.2.1)))) then
 bif (fits ((List.length x.2.2.2.2.2.2.2.2)+(List.length ((cut (getAt ([]:List T7) x.1 (toN x.2.2.1)) (toN (0:Int)) ((toN (Min.min (((List.length (getAt ([]:List T7) x.1 (toN x.2.2.1))):Nat):Int) (30:Int))) - (toN (0:Int)))) :: ([]:List (List T7)))))) then
 some (.inl (x.1,x.2.1,(IntKind.wrap .i64 (x.2.2.1+(1:Int))),x.2.2.2.1,x.2.2.2.2.1,x.2.2.2.2.2.1,x.2.2.2.2.2.2.1,x.2.2.2.2.2.2.2.1,(x.2.2.2.2.2.2.2.2++((cut (getAt ([]:List T7) x.1 (toN x.2.2.1)) (toN (0:Int)) ((toN (Min.min (((List.length (getAt ([]:List T7) x.1 (toN x.2.2.1))):Nat):Int) (30:Int))) - (toN (0:Int)))) :: ([]:List (List T7))))))
 else
 none
 else
 none
 else
 none
 else
 some (.inr (x.2.2.2.1,x.2.2.2.2.1,x.2.2.2.2.2.1,x.2.2.2.2.2.2.1,x.2.2.2.2.2.2.2.1,x.2.2.2.2.2.2.2.2))
def Z3r (x:(T47)):Option (T47) :=
 bif (sub3 (0:Int) (Min.min (((List.length x.1):Nat):Int) (6:Int)) (List.length x.1)) then
 bif (sub3 (0:Int) (Min.min (((List.length x.2.2.2.2.1):Nat):Int) (6:Int)) (List.length x.2.2.2.2.1)) then
 (loop Z8g ((cut x.2.2.2.2.1 (toN (0:Int)) ((toN (Min.min (((List.length x.2.2.2.2.1):Nat):Int) (6:Int))) - (toN (0:Int)))),(((List.length (cut x.2.2.2.2.1 (toN (0:Int)) ((toN (Min.min (((List.length x.2.2.2.2.1):Nat):Int) (6:Int))) - (toN (0:Int))))):Nat):Int),(0:Int),((cut x.1 (toN (0:Int)) ((toN (Min.min (((List.length x.1):Nat):Int) (6:Int))) - (toN (0:Int)))),x.2),(0:Int),(0:Int),(0:Int),([]:List T21))).bind fun r2 =>
 bif (sub3 (0:Int) (Min.min (((List.length r2.1.2.2.2.2.2):Nat):Int) (8:Int)) (List.length r2.1.2.2.2.2.2)) then
 (loop Z8f ((cut r2.1.2.2.2.2.2 (toN (0:Int)) ((toN (Min.min (((List.length r2.1.2.2.2.2.2):Nat):Int) (8:Int))) - (toN (0:Int)))),(((List.length (cut r2.1.2.2.2.2.2 (toN (0:Int)) ((toN (Min.min (((List.length r2.1.2.2.2.2.2):Nat):Int) (8:Int))) - (toN (0:Int))))):Nat):Int),(0:Int),r2.1,r2.2.1,r2.2.2.1,r2.2.2.2.1,r2.2.2.2.2,([]:List (List T7)))).bind fun r3 =>
 some (r3.1.1,r3.1.2.1,r3.1.2.2.1,r3.1.2.2.2.1,r3.2.2.2.2.1,r3.2.2.2.2.2)
 else
 none
 else
 none
 else
 none
def Z8l (x:T26):Option (T26 ⊕ ((Bool) ⊕ Unit)) :=
 bif (decide (x.2.2.2 < x.2.2.1)) then
 bif (inb x.2.2.2 (List.length x.1)) then
 bif (inb x.2.2.2 (List.length x.2.1)) then
 bif (Bool.not (((getAt ((0:Int),(0:Int),(0:Int)) x.1 (toN x.2.2.2)).1 == (getAt ((0:Int),(0:Int),(0:Int)) x.2.1 (toN x.2.2.2)).1) && (((getAt ((0:Int),(0:Int),(0:Int)) x.1 (toN x.2.2.2)).2.1 == (getAt ((0:Int),(0:Int),(0:Int)) x.2.1 (toN x.2.2.2)).2.1) && ((getAt ((0:Int),(0:Int),(0:Int)) x.1 (toN x.2.2.2)).2.2 == (getAt ((0:Int),(0:Int),(0:Int)) x.2.1 (toN x.2.2.2)).2.2)))) then
 some (.inr (.inl false))
 else
 some (.inl (x.1,x.2.1,x.2.2.1,(IntKind.wrap .i64 (x.2.2.2+(1:Int)))))
 else
 none
 else
 none
 else
 some (.inr (.inr ()))
def Z3y (x:T24):Option (Bool) :=
 bif ((((List.length x.1):Nat):Int) != (((List.length x.2):Nat):Int)) then
 some false
 else
 (loop Z8l (x.1,x.2,(((List.length x.1):Nat):Int),(0:Int))).bind fun r11 =>
 match r11 with
 | .inl y12 =>
 some y12
 | .inr y12 =>
 some true
abbrev Zfn:Shape:={ sl:=[(0,(.hole y27)),(1,(.hole y27)),(12,(.hole (.int .i64))),(13,(.hole (.int .i64)))],bl:=[],ts:=[y27,y27,(.int .i64),(.int .i64)],pin:=0 }
abbrev Zer:List (ETag × Shape):=[(.ret,{ sl:=sl_35,bl:=[],ts:=ts_1,pin:=0 }),(.exit 0,{ sl:=[],bl:=[],ts:=[],pin:=0 })]
def Z8m (x:(List (T20) × List (T20) × Int × Int)):Option ((List (T20) × List (T20) × Int × Int) ⊕ ((Bool) ⊕ Unit)) :=
 bif (decide (x.2.2.2 < x.2.2.1)) then
 bif (inb x.2.2.2 (List.length x.1)) then
 bif (inb x.2.2.2 (List.length x.2.1)) then
 bif (Bool.not (((getAt ((0:Int),(0:Int),(0:Int),(0:Int),(0:Int)) x.1 (toN x.2.2.2)).1 == (getAt ((0:Int),(0:Int),(0:Int),(0:Int),(0:Int)) x.2.1 (toN x.2.2.2)).1) && (((getAt ((0:Int),(0:Int),(0:Int),(0:Int),(0:Int)) x.1 (toN x.2.2.2)).2.1 == (getAt ((0:Int),(0:Int),(0:Int),(0:Int),(0:Int)) x.2.1 (toN x.2.2.2)).2.1) && (((getAt ((0:Int),(0:Int),(0:Int),(0:Int),(0:Int)) x.1 (toN x.2.2.2)).2.2.1 == (getAt ((0:Int),(0:Int),(0:Int),(0:Int),(0:Int)) x.2.1 (toN x.2.2.2)).2.2.1) && (((getAt ((0:Int),(0:Int),(0:Int),(0:Int),(0:Int)) x.1 (toN x.2.2.2)).2.2.2.1 == (getAt ((0:Int),(0:Int),(0:Int),(0:Int),(0:Int)) x.2.1 (toN x.2.2.2)).2.2.2.1) && ((getAt ((0:Int),(0:Int),(0:Int),(0:Int),(0:Int)) x.1 (toN x.2.2.2)).2.2.2.2 == (getAt ((0:Int),(0:Int),(0:Int),(0:Int),(0:Int)) x.2.1 (toN x.2.2.2)).2.2.2.2)))))) then
 some (.inr (.inl false))
 else
 some (.inl (x.1,x.2.1,x.2.2.1,(IntKind.wrap .i64 (x.2.2.2+(1:Int)))))
 else
 none
 else
 none
 else
 some (.inr (.inr ()))
def Zc0:Ctx:={ tb:=mkTb T2.tbl,fx:=[],sum:=[],nt:=26,pin:=0,nr:=true,ys:=[] }
theorem Z8n:CSound Tryz.prog ⟨26,0,true⟩ (.loop (loopOf 5 Tryz.f19)) (Yau Zfn Zer (loop Z8m)) :=
 Y8b (C:=Zc0) (ctxOK mixed tbl_ok rfl trivial trivial) (SumOK.of trivial) Zfn Zer rfl rfl Z8m (fun x=>by kernel_rfl)
abbrev Zi3:Shape:={ sl:=[(0,(.hole y27)),(1,(.hole y27))],bl:=[],ts:=[y27,y27],pin:=0 }
abbrev Zlw:Shape:={ sl:=sl_1,bl:=[],ts:=ts_1,pin:=0 }
def Z3z (x:(List (T20) × List (T20))):Option (Bool) :=
 bif ((((List.length x.1):Nat):Int) != (((List.length x.2):Nat):Int)) then
 some false
 else
 (loop Z8m (x.1,x.2,(((List.length x.1):Nat):Int),(0:Int))).bind fun r7 =>
 match r7 with
 | .inl y8 =>
 some y8
 | .inr y8 =>
 some true
abbrev Zpp:=Spec.shp Zi3 Zlw Z3z
def Zbz:Ctx:={ tb:=mkTb T2.tbl,fx:=[],sum:=[(0,5,Yau Zfn Zer (loop Z8m))],nt:=26,pin:=0,nr:=true,ys:=[] }
theorem Z40:Sound Tryz.prog 19 (Zpp) :=
 Sound.shp (C:=Zbz) (fn:=Tryz.f19) (by kernel_rfl) (c:=bodyOf Tryz.f19) (by kernel_rfl) (by decide) (ctxOK mixed tbl_ok rfl trivial trivial) (SumOK.of ⟨(Yaw (d:=.loop (loopOf 5 Tryz.f19)) (by kernel_rfl) Z8n),trivial⟩) (by kernel_rfl) Zi3 Zlw rfl (by decide) (by decide) rfl (by decide) rfl Z3z (fun x=>by kernel_rfl)
abbrev Zfo:Shape:={ sl:=[(0,(.hole (.slice y4))),(1,(.hole (.slice y4))),(12,(.hole (.int .i64))),(13,(.hole (.int .i64)))],bl:=[],ts:=[(.slice y4),(.slice y4),(.int .i64),(.int .i64)],pin:=0 }
abbrev Zes:List (ETag × Shape):=[(.ret,{ sl:=sl_35,bl:=[],ts:=ts_1,pin:=0 }),(.exit 0,{ sl:=[],bl:=[],ts:=[],pin:=0 })]
def Z8o (x:(List (Int × Int) × List (Int × Int) × Int × Int)):Option ((List (Int × Int) × List (Int × Int) × Int × Int) ⊕ ((Bool) ⊕ Unit)) :=
 bif (decide (x.2.2.2 < x.2.2.1)) then
 bif (inb x.2.2.2 (List.length x.1)) then
 bif (inb x.2.2.2 (List.length x.2.1)) then
 bif (Bool.not (((getAt ((0:Int),(0:Int)) x.1 (toN x.2.2.2)).1 == (getAt ((0:Int),(0:Int)) x.2.1 (toN x.2.2.2)).1) && ((getAt ((0:Int),(0:Int)) x.1 (toN x.2.2.2)).2 == (getAt ((0:Int),(0:Int)) x.2.1 (toN x.2.2.2)).2))) then
 some (.inr (.inl false))
 else
 some (.inl (x.1,x.2.1,x.2.2.1,(IntKind.wrap .i64 (x.2.2.2+(1:Int)))))
 else
 none
 else
 none
 else
 some (.inr (.inr ()))
def Zc2:Ctx:={ tb:=mkTb T2.tbl,fx:=[],sum:=[],nt:=26,pin:=0,nr:=true,ys:=[] }
theorem Z8p:CSound Tryz.prog ⟨26,0,true⟩ (.loop (loopOf 5 Tryz.f21)) (Yau Zfo Zes (loop Z8o)) :=
 Y8b (C:=Zc2) (ctxOK mixed tbl_ok rfl trivial trivial) (SumOK.of trivial) Zfo Zes rfl rfl Z8o (fun x=>by kernel_rfl)
end
end Go.Proofs.YthdlpkdojipfhaaGreat.VX.VxM_M
set_option linter.unusedVariables false
set_option maxRecDepth 100000
namespace Go.Proofs.YthdlpkdojipfhaaGreat.VX.VxM_M
open Go.Proofs Go.Proofs.YthdlpkdojipfhaaGreat.VX.T2
noncomputable section
abbrev Zi4:Shape:={ sl:=[(0,(.hole (.slice y4))),(1,(.hole (.slice y4)))],bl:=[],ts:=[(.slice y4),(.slice y4)],pin:=0 }
abbrev Zlx:Shape:={ sl:=sl_1,bl:=[],ts:=ts_1,pin:=0 }
def Z41 (x:(List (Int × Int) × List (Int × Int))):Option (Bool) :=
 bif ((((List.length x.1):Nat):Int) != (((List.length x.2):Nat):Int)) then
 some false
 else
 (loop Z8o (x.1,x.2,(((List.length x.1):Nat):Int),(0:Int))).bind fun r12 =>
 match r12 with
 | .inl y13 =>
 some y13
 | .inr y13 =>
 some true
abbrev Zpq:=Spec.shp Zi4 Zlx Z41
def Zc1:Ctx:={ tb:=mkTb T2.tbl,fx:=[],sum:=[(0,5,Yau Zfo Zes (loop Z8o))],nt:=26,pin:=0,nr:=true,ys:=[] }
theorem Z42:Sound Tryz.prog 21 (Zpq) :=
 Sound.shp (C:=Zc1) (fn:=Tryz.f21) (by kernel_rfl) (c:=bodyOf Tryz.f21) (by kernel_rfl) (by decide) (ctxOK mixed tbl_ok rfl trivial trivial) (SumOK.of ⟨(Yaw (d:=.loop (loopOf 5 Tryz.f21)) (by kernel_rfl) Z8p),trivial⟩) (by kernel_rfl) Zi4 Zlx rfl (by decide) (by decide) rfl (by decide) rfl Z41 (fun x=>by kernel_rfl)
abbrev Zfm:Shape:={ sl:=sl_32,bl:=bl_18,ts:=ts_16,pin:=0 }
abbrev Zeq:List (ETag × Shape):=[(.exit 0,{ sl:=[(1,(.ptr 0 [])),(2,(.ptr 1 [])),(3,(.sl 2))],bl:=bl_18,ts:=[y39,(.int .i64),(.int .i64),(.int .i64),(.slice y9)],pin:=0 })]
def Z8j (x:T55):Option (T55 ⊕ (T47 × Int × Int × Int × List (T12))) :=
 bif (decide (x.2.2.1 < x.2.1)) then
 bif (inb x.2.2.1 (List.length x.1)) then
 bif (sub3 (0:Int) (Min.min (((List.length (getAt (([]:List T0),false) x.1 (toN x.2.2.1)).1):Nat):Int) (6:Int)) (List.length (getAt (([]:List T0),false) x.1 (toN x.2.2.1)).1)) then
 bif (fits ((List.length x.2.2.2.2.2.2.2)+(List.length (((cut (getAt (([]:List T0),false) x.1 (toN x.2.2.1)).1 (toN (0:Int)) ((toN (Min.min (((List.length (getAt (([]:List T0),false) x.1 (toN x.2.2.1)).1):Nat):Int) (6:Int))) - (toN (0:Int)))),(getAt (([]:List T0),false) x.1 (toN x.2.2.1)).2) :: ([]:List T21))))) then
 some (.inl (x.1,x.2.1,(IntKind.wrap .i64 (x.2.2.1+(1:Int))),x.2.2.2.1,x.2.2.2.2.1,x.2.2.2.2.2.1,x.2.2.2.2.2.2.1,(x.2.2.2.2.2.2.2++(((cut (getAt (([]:List T0),false) x.1 (toN x.2.2.1)).1 (toN (0:Int)) ((toN (Min.min (((List.length (getAt (([]:List T0),false) x.1 (toN x.2.2.1)).1):Nat):Int) (6:Int))) - (toN (0:Int)))),(getAt (([]:List T0),false) x.1 (toN x.2.2.1)).2) :: ([]:List T21)))))
 else
 none
 else
 none
 else
 none
 else
 some (.inr (x.2.2.2.1,x.2.2.2.2.1,x.2.2.2.2.2.1,x.2.2.2.2.2.2.1,x.2.2.2.2.2.2.2))
def Zbx:Ctx:={ tb:=mkTb T2.tbl,fx:=[],sum:=[],nt:=68,pin:=0,nr:=true,ys:=[] }
theorem Z8k:CSound Tryz.prog ⟨68,0,true⟩ (.loop (loopOf 5 Tryz.f27)) (Yau Zfm Zeq (loop Z8j)) :=
 Y8b (C:=Zbx) (ctxOK mixed tbl_ok rfl trivial trivial) (SumOK.of trivial) Zfm Zeq rfl rfl Z8j (fun x=>by kernel_rfl)
abbrev Zfl:Shape:={ sl:=sl_33,bl:=bl_19,ts:=ts_17,pin:=0 }
abbrev Zep:List (ETag × Shape):=[(.exit 2,{ sl:=[(1,(.ptr 0 [])),(2,(.ptr 1 [])),(3,(.sl 2)),(6,(.sl 3))],bl:=bl_19,ts:=[y39,(.int .i64),(.int .i64),(.int .i64),(.slice y9),y10],pin:=0 })]
def Z8h (x:T59):Option (T59 ⊕ (T47 × Int × Int × Int × List (T12) × List (List (T7)))) :=
 bif (decide (x.2.2.1 < x.2.1)) then
 bif (inb x.2.2.1 (List.length x.1)) then
 bif (sub3 (0:Int) (Min.min (((List.length (getAt ([]:List T7) x.1 (toN x.2.2.1))):Nat):Int) (30:Int)) (List.length (getAt ([]:List T7) x.1 (toN x.2.2.1)))) then
 bif (fits ((List.length x.2.2.2.2.2.2.2.2)+(List.length ((cut (getAt ([]:List T7) x.1 (toN x.2.2.1)) (toN (0:Int)) ((toN (Min.min (((List.length (getAt ([]:List T7) x.1 (toN x.2.2.1))):Nat):Int) (30:Int))) - (toN (0:Int)))) :: ([]:List (List T7)))))) then
 some (.inl (x.1,x.2.1,(IntKind.wrap .i64 (x.2.2.1+(1:Int))),x.2.2.2.1,x.2.2.2.2.1,x.2.2.2.2.2.1,x.2.2.2.2.2.2.1,x.2.2.2.2.2.2.2.1,(x.2.2.2.2.2.2.2.2++((cut (getAt ([]:List T7) x.1 (toN x.2.2.1)) (toN (0:Int)) ((toN (Min.min (((List.length (getAt ([]:List T7) x.1 (toN x.2.2.1))):Nat):Int) (30:Int))) - (toN (0:Int)))) :: ([]:List (List T7))))))
 else
 none
 else
 none
 else
 none
 else
 some (.inr (x.2.2.2.1,x.2.2.2.2.1,x.2.2.2.2.2.1,x.2.2.2.2.2.2.1,x.2.2.2.2.2.2.2.1,x.2.2.2.2.2.2.2.2))
def Zbw:Ctx:={ tb:=mkTb T2.tbl,fx:=[],sum:=[(0,5,Yau Zfm Zeq (loop Z8j))],nt:=68,pin:=0,nr:=true,ys:=[] }
theorem Z8i:CSound Tryz.prog ⟨68,0,true⟩ (.loop (loopOf 12 Tryz.f27)) (Yau Zfl Zep (loop Z8h)) :=
 Y8b (C:=Zbw) (ctxOK mixed tbl_ok rfl trivial trivial) (SumOK.of ⟨(Yav (by kernel_rfl)),trivial⟩) Zfl Zep rfl rfl Z8h (fun x=>by kernel_rfl)
abbrev Zi1:Shape:={ sl:=sl_6,bl:=[],ts:=[y39],pin:=0 }
abbrev Zlu:Shape:={ sl:=sl_6,bl:=[],ts:=[y39],pin:=0 }
def Z3u (x:(T47)):Option (T47) :=
 bif (sub3 (0:Int) (Min.min (((List.length x.1):Nat):Int) (6:Int)) (List.length x.1)) then
 bif (sub3 (0:Int) (Min.min (((List.length x.2.2.2.2.1):Nat):Int) (6:Int)) (List.length x.2.2.2.2.1)) then
 (loop Z8j ((cut x.2.2.2.2.1 (toN (0:Int)) ((toN (Min.min (((List.length x.2.2.2.2.1):Nat):Int) (6:Int))) - (toN (0:Int)))),(((List.length (cut x.2.2.2.2.1 (toN (0:Int)) ((toN (Min.min (((List.length x.2.2.2.2.1):Nat):Int) (6:Int))) - (toN (0:Int))))):Nat):Int),(0:Int),((cut x.1 (toN (0:Int)) ((toN (Min.min (((List.length x.1):Nat):Int) (6:Int))) - (toN (0:Int)))),x.2),(0:Int),(0:Int),(0:Int),([]:List T21))).bind fun r2 =>
 bif (sub3 (0:Int) (Min.min (((List.length r2.1.2.2.2.2.2):Nat):Int) (8:Int)) (List.length r2.1.2.2.2.2.2)) then
 (loop Z8h ((cut r2.1.2.2.2.2.2 (toN (0:Int)) ((toN (Min.min (((List.length r2.1.2.2.2.2.2):Nat):Int) (8:Int))) - (toN (0:Int)))),(((List.length (cut r2.1.2.2.2.2.2 (toN (0:Int)) ((toN (Min.min (((List.length r2.1.2.2.2.2.2):Nat):Int) (8:Int))) - (toN (0:Int))))):Nat):Int),(0:Int),r2.1,r2.2.1,r2.2.2.1,r2.2.2.2.1,r2.2.2.2.2,([]:List (List T7)))).bind fun r3 =>
 some (r3.1.1,r3.1.2.1,r3.1.2.2.1,r3.1.2.2.2.1,r3.2.2.2.2.1,r3.2.2.2.2.2)
 else
 none
 else
 none
 else
 none
abbrev Zpn:=Spec.shp Zi1 Zlu Z3u
def Zbv:Ctx:={ tb:=mkTb T2.tbl,fx:=[],sum:=[(0,5,Yau Zfm Zeq (loop Z8j)),(0,12,Yau Zfl Zep (loop Z8h))],nt:=68,pin:=0,nr:=true,ys:=[] }
theorem Z3v:Sound Tryz.prog 27 (Zpn) :=
 Sound.shp (C:=Zbv) (fn:=Tryz.f27) (by kernel_rfl) (c:=bodyOf Tryz.f27) (by kernel_rfl) (by decide) (ctxOK mixed tbl_ok rfl trivial trivial) (SumOK.of ⟨(Yaw (d:=.loop (loopOf 5 Tryz.f27)) (by kernel_rfl) Z8k),(Yaw (d:=.loop (loopOf 12 Tryz.f27)) (by kernel_rfl) Z8i),trivial⟩) (by kernel_rfl) Zi1 Zlu rfl (by decide) (by decide) rfl (by decide) rfl Z3u (fun x=>by kernel_rfl)
abbrev Zix:Shape:={ sl:=[(0,(.hole y39)),(1,(.hole (.int .i64)))],bl:=[],ts:=[y39,(.int .i64)],pin:=0 }
abbrev Zmq:Shape:={ sl:=sl_2,bl:=[],ts:=ts_2,pin:=0 }
def Z5n (x:(T47 × Int)):Option (Int) :=
 (Z45 x.1).bind fun r4 =>
 bif (Bool.not r4) then
 some (1:Int)
 else
 bif (decide (x.2 < (1:Int))) then
 some (2:Int)
 else
 bif (decide (x.2 > (400:Int))) then
 some (2:Int)
 else
 some (0:Int)
abbrev Zqi:=Spec.shp Zix Zmq Z5n
def Zcz:Ctx:={ tb:=mkTb T2.tbl,fx:=[(38,[],Zps)],sum:=[],nt:=16,pin:=0,nr:=true,ys:=[] }
theorem Z5o:Sound Tryz.prog 80 (Zqi) :=
 Sound.shp (C:=Zcz) (fn:=Tryz.f80) (by kernel_rfl) (c:=bodyOf Tryz.f80) (by kernel_rfl) (by decide) (ctxOK mixed tbl_ok rfl ⟨Z46,trivial⟩ trivial) (SumOK.of trivial) (by kernel_rfl) Zix Zmq rfl (by decide) (by decide) rfl (by decide) rfl Z5n (fun x=>by kernel_rfl)
abbrev Zj1:Shape:={ sl:=[(0,(.hole y27))],bl:=[],ts:=[y27],pin:=0 }
abbrev Zmu:Shape:={ sl:=[(0,(.sl 0))],bl:=[.row y24],ts:=[y27],pin:=0 }
def Z5v (x:(List (T20))):Option (List (T20)) :=
 bif (@Nat.beq (List.length x) (0:Nat)) then
 amb (
 some ([]:List T20)) (
 bif (fits ((List.length ([]:List T20))+(List.length x))) then
 some (([]:List T20)++x)
 else
 none)
 else
 bif (fits ((List.length ([]:List T20))+(List.length x))) then
 some (([]:List T20)++x)
 else
 none
abbrev Zqm:=Spec.shp Zj1 Zmu Z5v
def Zd4:Ctx:={ tb:=mkTb T2.tbl,fx:=[],sum:=[],nt:=8,pin:=0,nr:=true,ys:=[] }
theorem Z5w:Sound Tryz.prog 139 (Zqm) :=
 Sound.shp (C:=Zd4) (fn:=Tryz.f139) (by kernel_rfl) (c:=bodyOf Tryz.f139) (by kernel_rfl) (by decide) (ctxOK mixed tbl_ok rfl trivial trivial) (SumOK.of trivial) (by kernel_rfl) Zj1 Zmu rfl (by decide) (by decide) rfl (by decide) rfl Z5v (fun x=>by kernel_rfl)
abbrev Ziy:Shape:={ sl:=sl_25,bl:=[.var (.hole (.one y0))],ts:=[(.int .i64),(.one y0)],pin:=0 }
abbrev Zmr:Shape:={ sl:=sl_2,bl:=[.var (.hole (.one y0))],ts:=[(.int .i64),(.one y0)],pin:=1 }
def Z5p (x:T3):Option T3 :=
 bif ((((List.length x.2):Nat):Int) == (0:Int)) then
 some ((0:Int),x.2)
 else
 bif (inb (0:Int) (List.length x.2)) then
 bif (x.1 != (0:Int)) then
 bif (sub3 (1:Int) (((List.length x.2):Nat):Int) (List.length x.2)) then
 bif (decide ((Int.tmod (getAt (0:Int) x.2 (toN (0:Int))) x.1) < (0:Int))) then
 some ((IntKind.wrap .i64 ((Int.tmod (getAt (0:Int) x.2 (toN (0:Int))) x.1)+x.1)),(cut x.2 (toN (1:Int)) ((toN (((List.length x.2):Nat):Int)) - (toN (1:Int)))))
 else
 some ((Int.tmod (getAt (0:Int) x.2 (toN (0:Int))) x.1),(cut x.2 (toN (1:Int)) ((toN (((List.length x.2):Nat):Int)) - (toN (1:Int)))))
 else
 none
 else
 none
 else
 none
abbrev Zqj:=Spec.shp Ziy Zmr Z5p
def Zd0:Ctx:={ tb:=mkTb T2.tbl,fx:=[],sum:=[],nt:=34,pin:=1,nr:=true,ys:=[] }
theorem Z5q:Sound Tryz.prog 81 (Zqj) :=
 Sound.shp (C:=Zd0) (fn:=Tryz.f81) (by kernel_rfl) (c:=bodyOf Tryz.f81) (by kernel_rfl) (by decide) (ctxOK mixed tbl_ok rfl trivial trivial) (SumOK.of trivial) (by kernel_rfl) Ziy Zmr rfl (by decide) (by decide) rfl (by decide) rfl Z5p (fun x=>by kernel_rfl)
abbrev Zft:Shape:={ sl:=[(1,(.fn 81 (.cons (.ptr 0 []) .nil) .nil)),(6,(.ptr 1 [])),(8,(.ptr 2 [])),(11,(.ptr 3 [])),(12,(.sl 4)),(27,(.hole (.int .i64))),(28,(.hole (.int .i64)))],bl:=bl_31,ts:=[(.int .i64),(.int .i64),(.one y0),(.int .i64),y45,(.int .i64),y0,y27,(.slice y4)],pin:=1 }
abbrev Zex:List (ETag × Shape):=[(.exit 0,{ sl:=[(6,(.ptr 1 [])),(8,(.ptr 2 [])),(11,(.ptr 3 [])),(12,(.sl 4))],bl:=bl_31,ts:=[(.one y0),(.int .i64),y45,(.int .i64),y0,y27,(.slice y4)],pin:=1 })]
def Z8y (x:(Int × Int × List Int × Int × (T47 × T61) × Int × List Int × List (T20) × List (Int × Int))):Option ((Int × Int × List Int × Int × (T47 × T61) × Int × List Int × List (T20) × List (Int × Int)) ⊕ (List Int × Int × (T47 × T61) × Int × List Int × List (T20) × List (Int × Int))) :=
 bif (decide (x.2.1 < x.1)) then
 bif (x.2.2.2.2.1.2.2.2.2.2.2 != (0:Int)) then
 some (.inr (x.2.2.1,x.2.2.2.1,x.2.2.2.2.1,x.2.2.2.2.2.1,x.2.2.2.2.2.2.1,x.2.2.2.2.2.2.2.1,x.2.2.2.2.2.2.2.2))
 else
 (Z16 x.2.2.2.2.1).bind fun r8 =>
 (Z5p ((((List.length r8):Nat):Int),x.2.2.1)).bind fun r9 =>
 bif (inb r9.1 (List.length r8)) then
 (Z1a (x.2.2.2.2.1,(getAt ((0:Int),(0:Int)) r8 (toN r9.1)))).bind fun r10 =>
 bif (fits ((List.length x.2.2.2.2.2.2.2.1)+(List.length r10.2.1))) then
 bif (fits ((List.length x.2.2.2.2.2.2.2.2)+(List.length ((getAt ((0:Int),(0:Int)) r8 (toN r9.1)) :: ([]:List (Int × Int)))))) then
 bif (fits ((List.length x.2.2.2.2.2.2.1)+(List.length ((((List.length r8):Nat):Int) :: ([]:List Int))))) then
 some (.inl (x.1,(IntKind.wrap .i64 (x.2.1+(1:Int))),r9.2,x.2.2.2.1,r10.1,x.2.2.2.2.2.1,(x.2.2.2.2.2.2.1++((((List.length r8):Nat):Int) :: ([]:List Int))),(x.2.2.2.2.2.2.2.1++r10.2.1),(x.2.2.2.2.2.2.2.2++((getAt ((0:Int),(0:Int)) r8 (toN r9.1)) :: ([]:List (Int × Int))))))
 else
 none
 else
 none
 else
 none
 else
 none
 else
 some (.inr (x.2.2.1,x.2.2.2.1,x.2.2.2.2.1,x.2.2.2.2.2.1,x.2.2.2.2.2.2.1,x.2.2.2.2.2.2.2.1,x.2.2.2.2.2.2.2.2))
def Zd2:Ctx:={ tb:=mkTb T2.tbl,fx:=[(14,[],Zod),(139,[],Zqm),(22,[],Zoc),(81,[],Zqj),(23,[],Zoe)],sum:=[],nt:=76,pin:=1,nr:=true,ys:=[] }
theorem Z8z:CSound Tryz.prog ⟨76,1,true⟩ (.loop (loopOf 6 Tryz.f82)) (Yau Zft Zex (loop Z8y)) :=
 Y8b (C:=Zd2) (ctxOK mixed tbl_ok rfl ⟨Z19,Z5w,Z17,Z5q,Z1b,trivial⟩ trivial) (SumOK.of trivial) Zft Zex rfl rfl Z8y (fun x=>by kernel_rfl)
abbrev Ziz:Shape:={ sl:=[(0,(.hole y39)),(1,(.fn 81 (.cons (.ptr 0 []) .nil) .nil)),(2,(.hole (.int .i64)))],bl:=[.var (.hole (.one y0))],ts:=[y39,(.int .i64),(.one y0)],pin:=0 }
abbrev Zms:Shape:={ sl:=[(0,(.hole y38)),(1,(.hole y0))],bl:=[.var (.hole (.one y0))],ts:=[y38,y0,(.one y0)],pin:=1 }
def Z5r (x:(T47 × Int × List Int)):Option ((Int × T36) × List Int × List Int) :=
 (Z18 x.1).bind fun r5 =>
 (Z5v r5.2.1).bind fun r6 =>
 (loop Z8y (x.2.1,(0:Int),x.2.2,(0:Int),r5.1,(0:Int),([]:List Int),r6,([]:List (Int × Int)))).bind fun r7 =>
 bif (r7.2.2.1.2.2.2.2.2.2 == (0:Int)) then
 some (((5:Int),r7.2.2.2.2.2.1,r7.2.2.2.2.2.2),r7.2.2.2.2.1,r7.1)
 else
 some ((r7.2.2.1.2.2.2.2.2.2,r7.2.2.2.2.2.1,r7.2.2.2.2.2.2),r7.2.2.2.2.1,r7.1)
abbrev Zqk:=Spec.shp Ziz Zms Z5r
def Zd1:Ctx:={ tb:=mkTb T2.tbl,fx:=[(14,[],Zod),(139,[],Zqm),(22,[],Zoc),(81,[],Zqj),(23,[],Zoe)],sum:=[(0,6,Yau Zft Zex (loop Z8y))],nt:=76,pin:=1,nr:=true,ys:=[] }
theorem Z5s:Sound Tryz.prog 82 (Zqk) :=
 Sound.shp (C:=Zd1) (fn:=Tryz.f82) (by kernel_rfl) (c:=bodyOf Tryz.f82) (by kernel_rfl) (by decide) (ctxOK mixed tbl_ok rfl ⟨Z19,Z5w,Z17,Z5q,Z1b,trivial⟩ trivial) (SumOK.of ⟨(Yaw (d:=.loop (loopOf 6 Tryz.f82)) (by kernel_rfl) Z8z),trivial⟩) (by kernel_rfl) Ziz Zms rfl (by decide) (by decide) rfl (by decide) rfl Z5r (fun x=>by kernel_rfl)
abbrev Ziw:Shape:={ sl:=sl_43,bl:=[],ts:=[y39,y0,(.int .i64)],pin:=0 }
abbrev Zmp:Shape:={ sl:=[(0,(.hole y38)),(1,(.hole (.int .i64)))],bl:=[],ts:=[y38,(.int .i64)],pin:=0 }
def Z5l (x:T51):Option ((Int × T36) × Int) :=
 (Z5n (x.1,x.2.2)).bind fun r3 =>
 bif (r3 != (0:Int)) then
 some (((0:Int),([]:List T20),([]:List (Int × Int))),r3)
 else
 (Z5r (x.1,x.2.2,x.2.1)).bind fun r4 =>
 some (r4.1,(0:Int))
abbrev Zqh:=Spec.shp Ziw Zmp Z5l
def Zcy:Ctx:={ tb:=mkTb T2.tbl,fx:=[(80,[],Zqi),(82,[81],Zqk)],sum:=[],nt:=31,pin:=0,nr:=true,ys:=[] }
theorem Z5m:Sound Tryz.prog 28 (Zqh) :=
 Sound.shp (C:=Zcy) (fn:=Tryz.f28) (by kernel_rfl) (c:=bodyOf Tryz.f28) (by kernel_rfl) (by decide) (ctxOK mixed tbl_ok rfl ⟨Z5o,Z5s,trivial⟩ trivial) (SumOK.of trivial) (by kernel_rfl) Ziw Zmp rfl (by decide) (by decide) rfl (by decide) rfl Z5l (fun x=>by kernel_rfl)
abbrev Zi2:Shape:={ sl:=[],bl:=[],ts:=[],pin:=0 }
abbrev Zlv:Shape:={ sl:=sl_6,bl:=[],ts:=[y39],pin:=0 }
def Z3w (x:Unit):Option (T47) :=
 some (((0:Int) :: ([]:List Int)),(0:Int),(0:Int),(0:Int),([]:List T21),((((9:Int),(1:Int),(0:Int)) :: (((2:Int),(0:Int),(0:Int)) :: ([]:List T7))) :: ((((1:Int),(0:Int),(0:Int)) :: ([]:List T7)) :: ([]:List (List T7)))))
abbrev Zpo:=Spec.shp Zi2 Zlv Z3w
def Zby:Ctx:={ tb:=mkTb T2.tbl,fx:=[],sum:=[],nt:=9,pin:=0,nr:=true,ys:=[] }
theorem Z3x:Sound Tryz.prog 83 (Zpo) :=
 Sound.shp (C:=Zby) (fn:=Tryz.f83) (by kernel_rfl) (c:=bodyOf Tryz.f83) (by kernel_rfl) (by decide) (ctxOK mixed tbl_ok rfl trivial trivial) (SumOK.of trivial) (by kernel_rfl) Zi2 Zlv rfl (by decide) (by decide) rfl (by decide) rfl Z3w (fun x=>by kernel_rfl)
abbrev Zi0:Shape:={ sl:=[],bl:=[],ts:=[],pin:=0 }
abbrev Zlt:Shape:={ sl:=sl_1,bl:=[],ts:=ts_1,pin:=0 }
def Z3s (x:Unit):Option (Bool) :=
 (Z3w ()).bind fun r6 =>
 (Z5l (r6,([]:List Int),(9:Int))).bind fun r7 =>
 bif (r7.2 == (0:Int)) then
 bif (r7.1.1 == (1:Int)) then
 bif ((((List.length r7.1.2.1):Nat):Int) == (7:Int)) then
 bif ((((List.length r7.1.2.2):Nat):Int) == (3:Int)) then
 bif (inb (2:Int) (List.length r7.1.2.2)) then
 some ((getAt ((0:Int),(0:Int)) r7.1.2.2 (toN (2:Int))).1 == (1:Int))
 else
 none
 else
 some false
 else
 some false
 else
 some false
 else
 some false
abbrev Zpm:=Spec.shp Zi0 Zlt Z3s
def Zbu:Ctx:={ tb:=mkTb T2.tbl,fx:=[(83,[],Zpo),(28,[],Zqh)],sum:=[],nt:=35,pin:=0,nr:=true,ys:=[] }
theorem Z3t:Sound Tryz.prog 29 (Zpm) :=
 Sound.shp (C:=Zbu) (fn:=Tryz.f29) (by kernel_rfl) (c:=bodyOf Tryz.f29) (by kernel_rfl) (by decide) (ctxOK mixed tbl_ok rfl ⟨Z3x,Z5m,trivial⟩ trivial) (SumOK.of trivial) (by kernel_rfl) Zi0 Zlt rfl (by decide) (by decide) rfl (by decide) rfl Z3s (fun x=>by kernel_rfl)
abbrev Zi5:Shape:={ sl:=[(0,(.hole y38)),(1,(.hole y38))],bl:=[],ts:=[y38,y38],pin:=0 }
abbrev Zly:Shape:={ sl:=sl_1,bl:=[],ts:=ts_1,pin:=0 }
def Z43 (x:((Int × T36) × (Int × T36))):Option (Bool) :=
 bif (x.1.1 == x.2.1) then
 (Z3z (x.1.2.1,x.2.2.1)).bind fun r7 =>
 bif r7 then
 (Z41 (x.1.2.2,x.2.2.2)).bind fun r8 =>
 some r8
 else
 some false
 else
 some false
abbrev Zpr:=Spec.shp Zi5 Zly Z43
def Zc3:Ctx:={ tb:=mkTb T2.tbl,fx:=[(19,[],Zpp),(21,[],Zpq)],sum:=[],nt:=24,pin:=0,nr:=true,ys:=[] }
theorem Z44:Sound Tryz.prog 30 (Zpr) :=
 Sound.shp (C:=Zc3) (fn:=Tryz.f30) (by kernel_rfl) (c:=bodyOf Tryz.f30) (by kernel_rfl) (by decide) (ctxOK mixed tbl_ok rfl ⟨Z40,Z42,trivial⟩ trivial) (SumOK.of trivial) (by kernel_rfl) Zi5 Zly rfl (by decide) (by decide) rfl (by decide) rfl Z43 (fun x=>by kernel_rfl)
def F_plaitlaw13_RunStarts (x:(T47 × List Int × Int × Int)):Option (Bool) :=
 (Z3u x.1).bind fun r1 =>
 bif (sub3 (0:Int) (Min.min (((List.length x.2.1):Nat):Int) (120:Int)) (List.length x.2.1)) then
 bif ((IntKind.wrap .i64 ((1:Int)+(Int.tmod (IntKind.wrap .i64 ((Int.tmod x.2.2.1 (100:Int))+(100:Int))) (100:Int)))) != (0:Int)) then
 bif ((IntKind.wrap .i64 ((1:Int)+(Int.tmod (IntKind.wrap .i64 ((Int.tmod x.2.2.1 (100:Int))+(100:Int))) (100:Int)))) != (0:Int)) then
 (Z5l (r1,(cut x.2.1 (toN (0:Int)) ((toN (Min.min (((List.length x.2.1):Nat):Int) (120:Int))) - (toN (0:Int)))),(IntKind.wrap .i64 ((1:Int)+(Int.tmod (IntKind.wrap .i64 ((Int.tmod x.2.2.1 (100:Int))+(100:Int))) (100:Int)))))).bind fun r2 =>
 (Z5l (r1,(cut x.2.1 (toN (0:Int)) ((toN (Min.min (((List.length x.2.1):Nat):Int) (120:Int))) - (toN (0:Int)))),(IntKind.wrap .i64 ((1:Int)+(Int.tmod (IntKind.wrap .i64 ((Int.tmod x.2.2.2 (IntKind.wrap .i64 ((1:Int)+(Int.tmod (IntKind.wrap .i64 ((Int.tmod x.2.2.1 (100:Int))+(100:Int))) (100:Int)))))+(IntKind.wrap .i64 ((1:Int)+(Int.tmod (IntKind.wrap .i64 ((Int.tmod x.2.2.1 (100:Int))+(100:Int))) (100:Int)))))) (IntKind.wrap .i64 ((1:Int)+(Int.tmod (IntKind.wrap .i64 ((Int.tmod x.2.2.1 (100:Int))+(100:Int))) (100:Int))))))))).bind fun r3 =>
 bif (r2.2 != (0:Int)) then
 (Z3s ()).bind fun r4 =>
 bif r4 then
 some (r2.2 == r3.2)
 else
 some false
 else
 bif (r3.2 != (0:Int)) then
 some false
 else
 bif (decide ((((List.length r3.1.2.2):Nat):Int) > (((List.length r2.1.2.2):Nat):Int))) then
 some false
 else
 bif (decide ((((List.length r3.1.2.1):Nat):Int) > (((List.length r2.1.2.1):Nat):Int))) then
 some false
 else
 (Z3s ()).bind fun r4 =>
 bif (Bool.not r4) then
 some false
 else
 bif (r3.1.1 != (5:Int)) then
 (Z43 (r2.1,r3.1)).bind fun r5 =>
 bif (Bool.not r5) then
 some false
 else
 bif (sub3 (0:Int) (((List.length r3.1.2.2):Nat):Int) (List.length r2.1.2.2)) then
 (Z41 ((cut r2.1.2.2 (toN (0:Int)) ((toN (((List.length r3.1.2.2):Nat):Int)) - (toN (0:Int)))),r3.1.2.2)).bind fun r6 =>
 bif r6 then
 bif (sub3 (0:Int) (((List.length r3.1.2.1):Nat):Int) (List.length r2.1.2.1)) then
 (Z3z ((cut r2.1.2.1 (toN (0:Int)) ((toN (((List.length r3.1.2.1):Nat):Int)) - (toN (0:Int)))),r3.1.2.1)).bind fun r7 =>
 bif r7 then
 some ((((List.length r3.1.2.2):Nat):Int) == (Min.min (IntKind.wrap .i64 ((1:Int)+(Int.tmod (IntKind.wrap .i64 ((Int.tmod x.2.2.2 (IntKind.wrap .i64 ((1:Int)+(Int.tmod (IntKind.wrap .i64 ((Int.tmod x.2.2.1 (100:Int))+(100:Int))) (100:Int)))))+(IntKind.wrap .i64 ((1:Int)+(Int.tmod (IntKind.wrap .i64 ((Int.tmod x.2.2.1 (100:Int))+(100:Int))) (100:Int)))))) (IntKind.wrap .i64 ((1:Int)+(Int.tmod (IntKind.wrap .i64 ((Int.tmod x.2.2.1 (100:Int))+(100:Int))) (100:Int))))))) (((List.length r2.1.2.2):Nat):Int)))
 else
 some false
 else
 none
 else
 some false
 else
 none
 else
 bif (sub3 (0:Int) (((List.length r3.1.2.2):Nat):Int) (List.length r2.1.2.2)) then
 (Z41 ((cut r2.1.2.2 (toN (0:Int)) ((toN (((List.length r3.1.2.2):Nat):Int)) - (toN (0:Int)))),r3.1.2.2)).bind fun r5 =>
 bif r5 then
 bif (sub3 (0:Int) (((List.length r3.1.2.1):Nat):Int) (List.length r2.1.2.1)) then
 (Z3z ((cut r2.1.2.1 (toN (0:Int)) ((toN (((List.length r3.1.2.1):Nat):Int)) - (toN (0:Int)))),r3.1.2.1)).bind fun r6 =>
 bif r6 then
 some ((((List.length r3.1.2.2):Nat):Int) == (Min.min (IntKind.wrap .i64 ((1:Int)+(Int.tmod (IntKind.wrap .i64 ((Int.tmod x.2.2.2 (IntKind.wrap .i64 ((1:Int)+(Int.tmod (IntKind.wrap .i64 ((Int.tmod x.2.2.1 (100:Int))+(100:Int))) (100:Int)))))+(IntKind.wrap .i64 ((1:Int)+(Int.tmod (IntKind.wrap .i64 ((Int.tmod x.2.2.1 (100:Int))+(100:Int))) (100:Int)))))) (IntKind.wrap .i64 ((1:Int)+(Int.tmod (IntKind.wrap .i64 ((Int.tmod x.2.2.1 (100:Int))+(100:Int))) (100:Int))))))) (((List.length r2.1.2.2):Nat):Int)))
 else
 some false
 else
 none
 else
 some false
 else
 none
 else
 none
 else
 none
 else
 none
def Zbt:Ctx:={ tb:=mkTb T2.tbl,fx:=[(27,[],Zpn),(28,[],Zqh),(29,[],Zpm),(30,[],Zpr),(21,[],Zpq),(19,[],Zpp)],sum:=[],nt:=119,pin:=0,nr:=true,ys:=[],rw:=[(1,[1])] }
theorem F_plaitlaw13_RunStarts_ok:Sound Tryz.prog 7 (Spec.pure [y39,y0,(.int .i64),(.int .i64)] [.bool] F_plaitlaw13_RunStarts) :=
 Sound.pure (C:=Zbt) (fn:=Tryz.f7) (by kernel_rfl) (c:=bodyOf Tryz.f7) (by kernel_rfl) (by decide) (ctxOK mixed tbl_ok rfl ⟨Z3v,Z5m,Z3t,Z44,Z42,Z40,trivial⟩) (SumOK.of trivial) (by kernel_rfl) rfl _ _ (by decide) _ (fun x=>by kernel_rfl)
end
end Go.Proofs.YthdlpkdojipfhaaGreat.VX.VxM_M
set_option linter.unusedVariables false
set_option maxRecDepth 100000
namespace Go.Proofs.YthdlpkdojipfhaaGreat.VX.VxM_M
open Go.Proofs Go.Proofs.YthdlpkdojipfhaaGreat.VX.T2
noncomputable section
end
end Go.Proofs.YthdlpkdojipfhaaGreat.VX.VxM_M

