/- Laid for the law RunReplays. -/
import Derived.Test.YthdlpkdojipfhaaGreatRunReplaysF0
set_option linter.unusedVariables false
set_option maxRecDepth 100000
namespace Go.Proofs.YthdlpkdojipfhaaGreat.VX.VxM_M
open Go.Proofs Go.Proofs.YthdlpkdojipfhaaGreat.VX.T2
noncomputable section
abbrev Zog:Shape:={ sl:=sl_27,bl:=[],ts:=[y40,y5],pin:=0 }
abbrev Ztr:Shape:={ sl:=sl_28,bl:=[],ts:=[y40,y30,(.int .i64)],pin:=0 }
def Zc (x:T45):Option T48 :=
 (Za x.1).bind fun r18 =>
 bif (Bool.not r18) then
 some (((0:Int),false,((0:Int),(0:Int),([]:List Int),(0:Int)),(0:Int),(0:Int),([]:List T7),([]:List T7)),((0:Int),(0:Int),((0:Int),(0:Int),(0:Int)),(0:Int)),(1:Int))
 else
 (Ze x.2).bind fun r19 =>
 bif (Bool.not r19) then
 some (((0:Int),false,((0:Int),(0:Int),([]:List Int),(0:Int)),(0:Int),(0:Int),([]:List T7),([]:List T7)),((0:Int),(0:Int),((0:Int),(0:Int),(0:Int)),(0:Int)),(1:Int))
 else
 (Zq (x.1.2.2.2.2.2.2,x.1,x.2.1)).bind fun r20 =>
 (Zl r20.2).bind fun r21 =>
 bif r21.1 then
 some (x.1,((0:Int),(0:Int),((Int.negSucc 0),(0:Int),(0:Int)),(0:Int)),(0:Int))
 else
 bif r20.2.1.2.1 then
 some (x.1,((3:Int),(0:Int),((Int.negSucc 0),(0:Int),(0:Int)),(0:Int)),(0:Int))
 else
 bif (r20.1.1 != (Int.negSucc 0)) then
 bif (r20.2.1.2.2.2.1 == (1048576:Int)) then
 some (((0:Int),false,((0:Int),(0:Int),([]:List Int),(0:Int)),(0:Int),(0:Int),([]:List T7),([]:List T7)),((0:Int),(0:Int),((0:Int),(0:Int),(0:Int)),(0:Int)),(5:Int))
 else
 bif (r20.1.1 != (Int.negSucc 0)) then
 (Zo (r20.1.1,r20.2)).bind fun r22 =>
 (Zs r22).bind fun r23 =>
 some (r23.2.1,((1:Int),r23.1,r20.1,r23.1),(0:Int))
 else
 (Zi r20.2).bind fun r22 =>
 bif (Bool.not r22.1) then
 (Zw r20.2).bind fun r23 =>
 some (r23.2.1,((1:Int),r23.1,r20.1,(0:Int)),(0:Int))
 else
 (Zaj (r20.2.1.2.2.2.2.2.1,x.2)).bind fun r23 =>
 bif (r23.2 != (0:Int)) then
 some (((0:Int),false,((0:Int),(0:Int),([]:List Int),(0:Int)),(0:Int),(0:Int),([]:List T7),([]:List T7)),((0:Int),(0:Int),((0:Int),(0:Int),(0:Int)),(0:Int)),r23.2)
 else
 some ((r20.2.1.1,r20.2.1.2.1,r20.2.1.2.2.1,r20.2.1.2.2.2.1,r20.2.1.2.2.2.2.1,r23.1,r20.2.1.2.2.2.2.2.2),((0:Int),(0:Int),r20.1,(0:Int)),(0:Int))
 else
 (Zi r20.2).bind fun r22 =>
 bif (Bool.not r22.1) then
 bif (r20.2.1.2.2.2.1 == (1048576:Int)) then
 some (((0:Int),false,((0:Int),(0:Int),([]:List Int),(0:Int)),(0:Int),(0:Int),([]:List T7),([]:List T7)),((0:Int),(0:Int),((0:Int),(0:Int),(0:Int)),(0:Int)),(5:Int))
 else
 bif (r20.1.1 != (Int.negSucc 0)) then
 (Zo (r20.1.1,r20.2)).bind fun r23 =>
 (Zs r23).bind fun r24 =>
 some (r24.2.1,((1:Int),r24.1,r20.1,r24.1),(0:Int))
 else
 (Zi r20.2).bind fun r23 =>
 bif (Bool.not r23.1) then
 (Zw r20.2).bind fun r24 =>
 some (r24.2.1,((1:Int),r24.1,r20.1,(0:Int)),(0:Int))
 else
 (Zaj (r20.2.1.2.2.2.2.2.1,x.2)).bind fun r24 =>
 bif (r24.2 != (0:Int)) then
 some (((0:Int),false,((0:Int),(0:Int),([]:List Int),(0:Int)),(0:Int),(0:Int),([]:List T7),([]:List T7)),((0:Int),(0:Int),((0:Int),(0:Int),(0:Int)),(0:Int)),r24.2)
 else
 some ((r20.2.1.1,r20.2.1.2.1,r20.2.1.2.2.1,r20.2.1.2.2.2.1,r20.2.1.2.2.2.2.1,r24.1,r20.2.1.2.2.2.2.2.2),((0:Int),(0:Int),r20.1,(0:Int)),(0:Int))
 else
 bif (r20.1.1 != (Int.negSucc 0)) then
 (Zo (r20.1.1,r20.2)).bind fun r23 =>
 (Zs r23).bind fun r24 =>
 some (r24.2.1,((1:Int),r24.1,r20.1,r24.1),(0:Int))
 else
 (Zi r20.2).bind fun r23 =>
 bif (Bool.not r23.1) then
 (Zw r20.2).bind fun r24 =>
 some (r24.2.1,((1:Int),r24.1,r20.1,(0:Int)),(0:Int))
 else
 (Zaj (r20.2.1.2.2.2.2.2.1,x.2)).bind fun r24 =>
 bif (r24.2 != (0:Int)) then
 some (((0:Int),false,((0:Int),(0:Int),([]:List Int),(0:Int)),(0:Int),(0:Int),([]:List T7),([]:List T7)),((0:Int),(0:Int),((0:Int),(0:Int),(0:Int)),(0:Int)),r24.2)
 else
 some ((r20.2.1.1,r20.2.1.2.1,r20.2.1.2.2.1,r20.2.1.2.2.2.1,r20.2.1.2.2.2.2.1,r24.1,r20.2.1.2.2.2.2.2.2),((0:Int),(0:Int),r20.1,(0:Int)),(0:Int))
abbrev Zz2:=Spec.shp Zog Ztr Zc
def Zea:Ctx:={ tb:=mkTb T2.tbl,fx:=[(112,[],Zz1),(206,[],Zz3),(167,[],Zz8),(165,[],Spec.shpR Zok Ztv Zl),(205,[],Zz7),(209,[],Zz9),(166,[],Spec.shpR Zoj Ztu Zi),(208,[],Zzb),(171,[],Z141)],sum:=[],nt:=128,pin:=0,nr:=true,ys:=[] }
theorem Zd:Sound Tryz.prog 170 (Zz2) :=
 Sound.shp (C:=Zea) (fn:=Tryz.f170) (by kernel_rfl) (c:=bodyOf Tryz.f170) (by kernel_rfl) (by decide) (ctxOK mixed tbl_ok rfl ⟨Zb,Zf,Zr,Zn,Zp,Zt,Zk,Zx,Zak,trivial⟩ trivial) (SumOK.of trivial) (by kernel_rfl) Zog Ztr rfl (by decide) (by decide) rfl (by decide) rfl Zc (fun x=>by kernel_rfl)
abbrev Zsa:Shape:={ sl:=[(0,(.hole y21))],bl:=[],ts:=[y21],pin:=0 }
abbrev Zxl:Shape:={ sl:=[(0,(.hole y21)),(1,(.hole (.int .i64))),(2,(.hole (.int .i64)))],bl:=[],ts:=[y21,(.int .i64),(.int .i64)],pin:=0 }
def Z85 (x:(T16)):Option (T16 × Int × Int) :=
 (Z89 x).bind fun r25 =>
 bif (Bool.not r25) then
 some (((0:Int),(0:Int),([]:List Int),(0:Int)),(0:Int),(1:Int))
 else
 bif (x.2.2.2 == (0:Int)) then
 some (((0:Int),(0:Int),([]:List Int),(0:Int)),(0:Int),(4:Int))
 else
 (Z8f (x,(0:Int))).bind fun r26 =>
 bif (inb r26 (List.length x.2.2.1)) then
 (Z8f (x,(1:Int))).bind fun r27 =>
 some ((x.1,r27,x.2.2.1,(IntKind.wrap .i64 (x.2.2.2 - (1:Int)))),(getAt (0:Int) x.2.2.1 (toN r26)),(0:Int))
 else
 none
abbrev Z12v:=Spec.shp Zsa Zxl Z85
def Zjc:Ctx:={ tb:=mkTb T2.tbl,fx:=[(196,[],Z12x),(232,[],Z130)],sum:=[],nt:=34,pin:=0,nr:=true,ys:=[] }
theorem Z86:Sound Tryz.prog 234 (Z12v) :=
 Sound.shp (C:=Zjc) (fn:=Tryz.f234) (by kernel_rfl) (c:=bodyOf Tryz.f234) (by kernel_rfl) (by decide) (ctxOK mixed tbl_ok rfl ⟨Z8a,Z8i,trivial⟩ trivial) (SumOK.of trivial) (by kernel_rfl) Zsa Zxl rfl (by decide) (by decide) rfl (by decide) rfl Z85 (fun x=>by kernel_rfl)
abbrev Zoo:Shape:={ sl:=sl_15,bl:=bl_12,ts:=[y42],pin:=0 }
abbrev Ztz:Shape:={ sl:=sl_2,bl:=bl_12,ts:=[(.int .i64),y42],pin:=1 }
def Zu (x:(T46)):Option (Int × T46) :=
 (Z85 x.1.2.2.1).bind fun r24 =>
 some (r24.2.1,(x.1.1,x.1.2.1,r24.1,x.1.2.2.2.1,(IntKind.wrap .i64 (x.1.2.2.2.2.1+(1:Int))),x.1.2.2.2.2.2),x.2)
abbrev Zza:=Spec.shp Zoo Ztz Zu
def Zej:Ctx:={ tb:=mkTb T2.tbl,fx:=[(234,[],Z12v)],sum:=[],nt:=28,pin:=1,nr:=true,ys:=[] }
theorem Zv:Sound Tryz.prog 207 (Zza) :=
 Sound.shp (C:=Zej) (fn:=Tryz.f207) (by kernel_rfl) (c:=bodyOf Tryz.f207) (by kernel_rfl) (by decide) (ctxOK mixed tbl_ok rfl ⟨Z86,trivial⟩ trivial) (SumOK.of trivial) (by kernel_rfl) Zoo Ztz rfl (by decide) (by decide) rfl (by decide) rfl Zu (fun x=>by kernel_rfl)
abbrev Zoe:Shape:={ sl:=sl_27,bl:=[],ts:=[y40,y5],pin:=0 }
abbrev Ztp:Shape:={ sl:=sl_28,bl:=[],ts:=[y40,y30,(.int .i64)],pin:=0 }
def Z8 (x:T45):Option T48 :=
 (Za x.1).bind fun r18 =>
 bif (Bool.not r18) then
 some (((0:Int),false,((0:Int),(0:Int),([]:List Int),(0:Int)),(0:Int),(0:Int),([]:List T7),([]:List T7)),((0:Int),(0:Int),((0:Int),(0:Int),(0:Int)),(0:Int)),(1:Int))
 else
 (Ze x.2).bind fun r19 =>
 bif (Bool.not r19) then
 some (((0:Int),false,((0:Int),(0:Int),([]:List Int),(0:Int)),(0:Int),(0:Int),([]:List T7),([]:List T7)),((0:Int),(0:Int),((0:Int),(0:Int),(0:Int)),(0:Int)),(1:Int))
 else
 (Zq (x.1.2.2.2.2.2.1,x.1,x.2.1)).bind fun r20 =>
 bif (r20.1.1 != (Int.negSucc 0)) then
 bif (r20.2.1.2.2.2.1 == (1048576:Int)) then
 some (((0:Int),false,((0:Int),(0:Int),([]:List Int),(0:Int)),(0:Int),(0:Int),([]:List T7),([]:List T7)),((0:Int),(0:Int),((0:Int),(0:Int),(0:Int)),(0:Int)),(5:Int))
 else
 (Zo (r20.1.1,r20.2)).bind fun r21 =>
 (Zl r21).bind fun r22 =>
 bif r22.1 then
 some (x.1,((0:Int),(0:Int),r20.1,(0:Int)),(0:Int))
 else
 bif (decide (r21.1.2.2.1.2.2.2 > (0:Int))) then
 (Zu r21).bind fun r23 =>
 bif (r20.1.1 != (Int.negSucc 0)) then
 (Zw r23.2).bind fun r24 =>
 some (r24.2.1,((1:Int),r23.1,r20.1,r24.1),(0:Int))
 else
 some (r23.2.1,((1:Int),r23.1,r20.1,(0:Int)),(0:Int))
 else
 bif (r20.1.1 != (Int.negSucc 0)) then
 (Zs r21).bind fun r23 =>
 some (r23.2.1,((1:Int),r23.1,r20.1,r23.1),(0:Int))
 else
 bif r21.1.2.1 then
 some (x.1,((2:Int),(0:Int),r20.1,(0:Int)),(0:Int))
 else
 (Zaj (r21.1.2.2.2.2.2.2,x.2)).bind fun r23 =>
 bif (r23.2 != (0:Int)) then
 some (((0:Int),false,((0:Int),(0:Int),([]:List Int),(0:Int)),(0:Int),(0:Int),([]:List T7),([]:List T7)),((0:Int),(0:Int),((0:Int),(0:Int),(0:Int)),(0:Int)),r23.2)
 else
 some ((r21.1.1,r21.1.2.1,r21.1.2.2.1,r21.1.2.2.2.1,r21.1.2.2.2.2.1,r21.1.2.2.2.2.2.1,r23.1),((0:Int),(0:Int),r20.1,(0:Int)),(0:Int))
 else
 (Zl r20.2).bind fun r21 =>
 bif r21.1 then
 some (x.1,((0:Int),(0:Int),r20.1,(0:Int)),(0:Int))
 else
 bif (decide (r20.2.1.2.2.1.2.2.2 > (0:Int))) then
 (Zu r20.2).bind fun r22 =>
 bif (r20.1.1 != (Int.negSucc 0)) then
 (Zw r22.2).bind fun r23 =>
 some (r23.2.1,((1:Int),r22.1,r20.1,r23.1),(0:Int))
 else
 some (r22.2.1,((1:Int),r22.1,r20.1,(0:Int)),(0:Int))
 else
 bif (r20.1.1 != (Int.negSucc 0)) then
 (Zs r20.2).bind fun r22 =>
 some (r22.2.1,((1:Int),r22.1,r20.1,r22.1),(0:Int))
 else
 bif r20.2.1.2.1 then
 some (x.1,((2:Int),(0:Int),r20.1,(0:Int)),(0:Int))
 else
 (Zaj (r20.2.1.2.2.2.2.2.2,x.2)).bind fun r22 =>
 bif (r22.2 != (0:Int)) then
 some (((0:Int),false,((0:Int),(0:Int),([]:List Int),(0:Int)),(0:Int),(0:Int),([]:List T7),([]:List T7)),((0:Int),(0:Int),((0:Int),(0:Int),(0:Int)),(0:Int)),r22.2)
 else
 some ((r20.2.1.1,r20.2.1.2.1,r20.2.1.2.2.1,r20.2.1.2.2.2.1,r20.2.1.2.2.2.2.1,r20.2.1.2.2.2.2.2.1,r22.1),((0:Int),(0:Int),r20.1,(0:Int)),(0:Int))
abbrev Zz0:=Spec.shp Zoe Ztp Z8
def Ze8:Ctx:={ tb:=mkTb T2.tbl,fx:=[(112,[],Zz1),(206,[],Zz3),(167,[],Zz8),(205,[],Zz7),(165,[],Spec.shpR Zok Ztv Zl),(207,[],Zza),(208,[],Zzb),(209,[],Zz9),(171,[],Z141)],sum:=[],nt:=130,pin:=0,nr:=true,ys:=[] }
theorem Z9:Sound Tryz.prog 169 (Zz0) :=
 Sound.shp (C:=Ze8) (fn:=Tryz.f169) (by kernel_rfl) (c:=bodyOf Tryz.f169) (by kernel_rfl) (by decide) (ctxOK mixed tbl_ok rfl ⟨Zb,Zf,Zr,Zp,Zn,Zv,Zx,Zt,Zak,trivial⟩ trivial) (SumOK.of trivial) (by kernel_rfl) Zoe Ztp rfl (by decide) (by decide) rfl (by decide) rfl Z8 (fun x=>by kernel_rfl)
abbrev Zph:Shape:={ sl:=sl_29,bl:=bl_2,ts:=[y5,(.int .i64),.bool,y39,y4,y18,y41,y19,y26,y27],pin:=0 }
abbrev Zus:Shape:={ sl:=[(0,(.hole y30))],bl:=bl_2,ts:=[y30,y39,y4,y18,y41,y19,y26,y27],pin:=1 }
def Z2g (x:(T7 × Int × Bool × T47 × (Int × Int) × List (T17) × List T43 × List (T18) × List T29 × List (T20))):Option ((Int × T23) × T47 × (Int × Int) × List (T17) × List T43 × List (T18) × List T29 × List (T20)) :=
 bif x.2.2.1 then
 bif (inb x.2.1 (List.length x.2.2.2.2.2.2.1)) then
 (Zc ((getAt ((0:Int),false,((0:Int),(0:Int),([]:List Int),(0:Int)),(0:Int),(0:Int),([]:List T7),([]:List T7)) x.2.2.2.2.2.2.1 (toN x.2.1)),x.1)).bind fun r17 =>
 bif (inb x.2.1 (List.length x.2.2.2.2.2.2.1)) then
 some (r17.2.1,x.2.2.2.1,x.2.2.2.2.1,x.2.2.2.2.2.1,(List.set x.2.2.2.2.2.2.1 (toN x.2.1) r17.1),x.2.2.2.2.2.2.2.1,x.2.2.2.2.2.2.2.2.1,x.2.2.2.2.2.2.2.2.2)
 else
 none
 else
 none
 else
 bif (inb x.2.1 (List.length x.2.2.2.2.2.2.1)) then
 (Z8 ((getAt ((0:Int),false,((0:Int),(0:Int),([]:List Int),(0:Int)),(0:Int),(0:Int),([]:List T7),([]:List T7)) x.2.2.2.2.2.2.1 (toN x.2.1)),x.1)).bind fun r17 =>
 bif (inb x.2.1 (List.length x.2.2.2.2.2.2.1)) then
 some (r17.2.1,x.2.2.2.1,x.2.2.2.2.1,x.2.2.2.2.2.1,(List.set x.2.2.2.2.2.2.1 (toN x.2.1) r17.1),x.2.2.2.2.2.2.2.1,x.2.2.2.2.2.2.2.2.1,x.2.2.2.2.2.2.2.2.2)
 else
 none
 else
 none
abbrev Z103:=Spec.shp Zph Zus Z2g
def Zfk:Ctx:={ tb:=mkTb T2.tbl,fx:=[(170,[],Zz2),(169,[],Zz0)],sum:=[],nt:=38,pin:=1,nr:=true,ys:=[] }
theorem Z2h:Sound Tryz.prog 124 (Z103) :=
 Sound.shp (C:=Zfk) (fn:=Tryz.f124) (by kernel_rfl) (c:=bodyOf Tryz.f124) (by kernel_rfl) (by decide) (ctxOK mixed tbl_ok rfl ⟨Zd,Z9,trivial⟩ trivial) (SumOK.of trivial) (by kernel_rfl) Zph Zus rfl (by decide) (by decide) rfl (by decide) rfl Z2g (fun x=>by kernel_rfl)
abbrev Zpv:Shape:={ sl:=sl_25,bl:=bl_2,ts:=ts_10,pin:=0 }
abbrev Zv6:Shape:={ sl:=[],bl:=bl_2,ts:=ts_11,pin:=1 }
def Z39 (x:T58):Option T57 :=
 bif (inb x.1 (List.length x.2.2.2.1)) then
 some (x.2.1,x.2.2.1,(List.set x.2.2.2.1 (toN x.1) ((getAt ((0:Int),(0:Int),(0:Int),false) x.2.2.2.1 (toN x.1)).1,(getAt ((0:Int),(0:Int),(0:Int),false) x.2.2.2.1 (toN x.1)).2.1,(1:Int),(getAt ((0:Int),(0:Int),(0:Int),false) x.2.2.2.1 (toN x.1)).2.2.2)),x.2.2.2.2.1,x.2.2.2.2.2.1,x.2.2.2.2.2.2.1,x.2.2.2.2.2.2.2)
 else
 none
abbrev Z10h:=Spec.shp Zpv Zv6 Z39
def Zg0:Ctx:={ tb:=mkTb T2.tbl,fx:=[],sum:=[],nt:=12,pin:=1,nr:=true,ys:=[] }
theorem Z3a:Sound Tryz.prog 125 (Z10h) :=
 Sound.shp (C:=Zg0) (fn:=Tryz.f125) (by kernel_rfl) (c:=bodyOf Tryz.f125) (by kernel_rfl) (by decide) (ctxOK mixed tbl_ok rfl trivial trivial) (SumOK.of trivial) (by kernel_rfl) Zpv Zv6 rfl (by decide) (by decide) rfl (by decide) rfl Z39 (fun x=>by kernel_rfl)
abbrev Zob:Shape:={ sl:=sl_13,bl:=[],ts:=[y40,(.int .i64)],pin:=0 }
abbrev Ztm:Shape:={ sl:=sl_13,bl:=[],ts:=[y40,(.int .i64)],pin:=0 }
def Z2 (x:T46):Option T46 :=
 (Za x.1).bind fun r23 =>
 bif (Bool.not r23) then
 some (((0:Int),false,((0:Int),(0:Int),([]:List Int),(0:Int)),(0:Int),(0:Int),([]:List T7),([]:List T7)),(1:Int))
 else
 bif (decide (x.2 < (0:Int))) then
 some (((0:Int),false,((0:Int),(0:Int),([]:List Int),(0:Int)),(0:Int),(0:Int),([]:List T7),([]:List T7)),(1:Int))
 else
 (Zo (x.2,x.1,x.2)).bind fun r24 =>
 some (r24.1,(0:Int))
abbrev Zyx:=Spec.shp Zob Ztm Z2
def Ze5:Ctx:={ tb:=mkTb T2.tbl,fx:=[(112,[],Zz1),(205,[],Zz7)],sum:=[],nt:=26,pin:=0,nr:=true,ys:=[] }
theorem Z3:Sound Tryz.prog 168 (Zyx) :=
 Sound.shp (C:=Ze5) (fn:=Tryz.f168) (by kernel_rfl) (c:=bodyOf Tryz.f168) (by kernel_rfl) (by decide) (ctxOK mixed tbl_ok rfl ⟨Zb,Zp,trivial⟩ trivial) (SumOK.of trivial) (by kernel_rfl) Zob Ztm rfl (by decide) (by decide) rfl (by decide) rfl Z2 (fun x=>by kernel_rfl)
abbrev Zmv:Shape:={ sl:=[(0,(.ptr 0 [])),(6,(.ptr 1 [])),(98,(.sl 2)),(99,(.hole (.int .i64))),(100,(.hole (.int .i64)))],bl:=[.var (.pr (.pr (.hole y39) (.pr (.sl 3) (.pr (.sl 2) (.pr (.sl 4) (.pr (.sl 5) (.hole y4)))))) (.sl 6)),.var (.hole y5),.row y40,.row y12,.row y15,.row y23,.row y24],ts:=[(.int .i64),(.int .i64),y39,y4,y5,y41,y18,y19,y26,y27],pin:=1 }
abbrev Zl9:List (ETag × Shape):=[(.exit 1,{ sl:=[],bl:=bl_2,ts:=ts_11,pin:=1 })]
def Zb7 (x:(Int × Int × T47 × (Int × Int) × T7 × List T43 × List (T17) × List (T18) × List T29 × List (T20))):Option ((Int × Int × T47 × (Int × Int) × T7 × List T43 × List (T17) × List (T18) × List T29 × List (T20)) ⊕ (T57)) :=
 bif (decide (x.2.1 < x.1)) then
 bif (inb x.2.1 (List.length x.2.2.2.2.2.1)) then
 (Z2 ((getAt ((0:Int),false,((0:Int),(0:Int),([]:List Int),(0:Int)),(0:Int),(0:Int),([]:List T7),([]:List T7)) x.2.2.2.2.2.1 (toN x.2.1)),x.2.2.2.2.1.1)).bind fun r22 =>
 bif (inb x.2.1 (List.length x.2.2.2.2.2.1)) then
 some (.inl (x.1,(IntKind.wrap .i64 (x.2.1+(1:Int))),x.2.2.1,x.2.2.2.1,x.2.2.2.2.1,(List.set x.2.2.2.2.2.1 (toN x.2.1) r22.1),x.2.2.2.2.2.2.1,x.2.2.2.2.2.2.2.1,x.2.2.2.2.2.2.2.2.1,x.2.2.2.2.2.2.2.2.2))
 else
 none
 else
 none
 else
 some (.inr (x.2.2.1,x.2.2.2.1,x.2.2.2.2.2.2.1,x.2.2.2.2.2.1,x.2.2.2.2.2.2.2.1,x.2.2.2.2.2.2.2.2.1,x.2.2.2.2.2.2.2.2.2))
def Zfa:Ctx:={ tb:=mkTb T2.tbl,fx:=[(78,[],Zzy),(40,[],Z10f),(120,[],Zzw),(168,[],Zyx)],sum:=[],nt:=120,pin:=1,nr:=true,ys:=[] }
theorem Zb8:CSound Tryz.prog ⟨120,1,true⟩ (.loop (loopOf 13 Tryz.f123)) (Yay Zmv Zl9 (loop Zb7)) :=
 Y8c (C:=Zfa) (ctxOK mixed tbl_ok rfl ⟨Z27,Z36,Z23,Z3,trivial⟩ trivial) (SumOK.of trivial) Zmv Zl9 rfl rfl Zb7 (fun x=>by kernel_rfl)
abbrev Zp8:Shape:={ sl:=[(0,(.ptr 0 [])),(1,(.hole y5)),(2,(.hole (.int .i64))),(3,(.hole (.int .i64))),(4,(.hole (.int .i64)))],bl:=bl_2,ts:=[y5,(.int .i64),(.int .i64),(.int .i64),y39,y4,y18,y41,y19,y26,y27],pin:=0 }
abbrev Zuj:Shape:={ sl:=[],bl:=bl_2,ts:=ts_11,pin:=1 }
def Z1y (x:(T7 × Int × Int × Int × T47 × (Int × Int) × List (T17) × List T43 × List (T18) × List T29 × List (T20))):Option T57 :=
 (Z26 (x.1.1,x.2.2.2.2.1,x.2.2.2.2.2.1,x.2.2.2.2.2.2.1,x.2.2.2.2.2.2.2.1,x.2.2.2.2.2.2.2.2.1,x.2.2.2.2.2.2.2.2.2.1,x.2.2.2.2.2.2.2.2.2.2)).bind fun r18 =>
 bif (r18.1.1 == (1:Int)) then
 (Z35 (x.1.1,(3:Int),x.2.1,x.2.2.1,x.1.2.2,r18.2.1,r18.2.2.1,r18.2.2.2.1,r18.2.2.2.2.1,r18.2.2.2.2.2.1,r18.2.2.2.2.2.2.1,r18.2.2.2.2.2.2.2)).bind fun r19 =>
 (Z22 (x.1.1,r19.2.1,r19.2.2.1,r19.2.2.2.1,r19.2.2.2.2.1,r19.2.2.2.2.2.1,r19.2.2.2.2.2.2.1,r19.2.2.2.2.2.2.2)).bind fun r20 =>
 (loop Zb7 ((((List.length r20.2.2.2.1):Nat):Int),(0:Int),r20.1,r20.2.1,x.1,r20.2.2.2.1,r20.2.2.1,r20.2.2.2.2.1,r20.2.2.2.2.2.1,r20.2.2.2.2.2.2)).bind fun r21 =>
 some (r21.1,r21.2.1,r21.2.2.1,r21.2.2.2.1,r21.2.2.2.2.1,r21.2.2.2.2.2.1,r21.2.2.2.2.2.2)
 else
 bif (r18.1.1 == (4:Int)) then
 bif (inb r18.1.2.1 (List.length r18.2.1.2.2.2.2.1)) then
 bif (inb x.1.2.1 (List.length (getAt (([]:List T0),false) r18.2.1.2.2.2.2.1 (toN r18.1.2.1)).1)) then
 bif (getAt (false,(0:Int)) (getAt (([]:List T0),false) r18.2.1.2.2.2.2.1 (toN r18.1.2.1)).1 (toN x.1.2.1)).1 then
 (Z35 (x.1.1,(3:Int),x.2.1,x.2.2.1,x.1.2.2,r18.2.1,r18.2.2.1,r18.2.2.2.1,r18.2.2.2.2.1,r18.2.2.2.2.2.1,r18.2.2.2.2.2.2.1,r18.2.2.2.2.2.2.2)).bind fun r19 =>
 (Z22 (x.1.1,r19.2.1,r19.2.2.1,r19.2.2.2.1,r19.2.2.2.2.1,r19.2.2.2.2.2.1,r19.2.2.2.2.2.2.1,r19.2.2.2.2.2.2.2)).bind fun r20 =>
 (loop Zb7 ((((List.length r20.2.2.2.1):Nat):Int),(0:Int),r20.1,r20.2.1,x.1,r20.2.2.2.1,r20.2.2.1,r20.2.2.2.2.1,r20.2.2.2.2.2.1,r20.2.2.2.2.2.2)).bind fun r21 =>
 some (r21.1,r21.2.1,r21.2.2.1,r21.2.2.2.1,r21.2.2.2.2.1,r21.2.2.2.2.2.1,r21.2.2.2.2.2.2)
 else
 bif (x.2.2.2.1 == (2:Int)) then
 (Z35 (x.1.1,(6:Int),x.2.1,(0:Int),x.1.2.2,r18.2.1,r18.2.2.1,r18.2.2.2.1,r18.2.2.2.2.1,r18.2.2.2.2.2.1,r18.2.2.2.2.2.2.1,r18.2.2.2.2.2.2.2)).bind fun r19 =>
 bif (inb x.1.1 (List.length r19.2.2.2.1)) then
 (Z22 (x.1.1,r19.2.1,r19.2.2.1,(List.set r19.2.2.2.1 (toN x.1.1) ((getAt ((0:Int),(0:Int),(0:Int),false) r19.2.2.2.1 (toN x.1.1)).1,(getAt ((0:Int),(0:Int),(0:Int),false) r19.2.2.2.1 (toN x.1.1)).2.1,(getAt ((0:Int),(0:Int),(0:Int),false) r19.2.2.2.1 (toN x.1.1)).2.2.1,true)),r19.2.2.2.2.1,r19.2.2.2.2.2.1,r19.2.2.2.2.2.2.1,r19.2.2.2.2.2.2.2)).bind fun r20 =>
 (loop Zb7 ((((List.length r20.2.2.2.1):Nat):Int),(0:Int),r20.1,r20.2.1,x.1,r20.2.2.2.1,r20.2.2.1,r20.2.2.2.2.1,r20.2.2.2.2.2.1,r20.2.2.2.2.2.2)).bind fun r21 =>
 some (r21.1,r21.2.1,r21.2.2.1,r21.2.2.2.1,r21.2.2.2.2.1,r21.2.2.2.2.2.1,r21.2.2.2.2.2.2)
 else
 none
 else
 (Z35 (x.1.1,(5:Int),x.2.1,x.2.2.1,x.1.2.2,r18.2.1,r18.2.2.1,r18.2.2.2.1,r18.2.2.2.2.1,r18.2.2.2.2.2.1,r18.2.2.2.2.2.2.1,r18.2.2.2.2.2.2.2)).bind fun r19 =>
 bif (inb x.1.1 (List.length r19.2.2.2.1)) then
 (Z22 (x.1.1,r19.2.1,r19.2.2.1,(List.set r19.2.2.2.1 (toN x.1.1) ((getAt ((0:Int),(0:Int),(0:Int),false) r19.2.2.2.1 (toN x.1.1)).1,(getAt ((0:Int),(0:Int),(0:Int),false) r19.2.2.2.1 (toN x.1.1)).2.1,(getAt ((0:Int),(0:Int),(0:Int),false) r19.2.2.2.1 (toN x.1.1)).2.2.1,false)),r19.2.2.2.2.1,r19.2.2.2.2.2.1,r19.2.2.2.2.2.2.1,r19.2.2.2.2.2.2.2)).bind fun r20 =>
 (loop Zb7 ((((List.length r20.2.2.2.1):Nat):Int),(0:Int),r20.1,r20.2.1,x.1,r20.2.2.2.1,r20.2.2.1,r20.2.2.2.2.1,r20.2.2.2.2.2.1,r20.2.2.2.2.2.2)).bind fun r21 =>
 some (r21.1,r21.2.1,r21.2.2.1,r21.2.2.2.1,r21.2.2.2.2.1,r21.2.2.2.2.2.1,r21.2.2.2.2.2.2)
 else
 none
 else
 none
 else
 none
 else
 bif (x.2.2.2.1 == (2:Int)) then
 (Z35 (x.1.1,(6:Int),x.2.1,(0:Int),x.1.2.2,r18.2.1,r18.2.2.1,r18.2.2.2.1,r18.2.2.2.2.1,r18.2.2.2.2.2.1,r18.2.2.2.2.2.2.1,r18.2.2.2.2.2.2.2)).bind fun r19 =>
 bif (inb x.1.1 (List.length r19.2.2.2.1)) then
 (Z22 (x.1.1,r19.2.1,r19.2.2.1,(List.set r19.2.2.2.1 (toN x.1.1) ((getAt ((0:Int),(0:Int),(0:Int),false) r19.2.2.2.1 (toN x.1.1)).1,(getAt ((0:Int),(0:Int),(0:Int),false) r19.2.2.2.1 (toN x.1.1)).2.1,(getAt ((0:Int),(0:Int),(0:Int),false) r19.2.2.2.1 (toN x.1.1)).2.2.1,true)),r19.2.2.2.2.1,r19.2.2.2.2.2.1,r19.2.2.2.2.2.2.1,r19.2.2.2.2.2.2.2)).bind fun r20 =>
 (loop Zb7 ((((List.length r20.2.2.2.1):Nat):Int),(0:Int),r20.1,r20.2.1,x.1,r20.2.2.2.1,r20.2.2.1,r20.2.2.2.2.1,r20.2.2.2.2.2.1,r20.2.2.2.2.2.2)).bind fun r21 =>
 some (r21.1,r21.2.1,r21.2.2.1,r21.2.2.2.1,r21.2.2.2.2.1,r21.2.2.2.2.2.1,r21.2.2.2.2.2.2)
 else
 none
 else
 (Z35 (x.1.1,(5:Int),x.2.1,x.2.2.1,x.1.2.2,r18.2.1,r18.2.2.1,r18.2.2.2.1,r18.2.2.2.2.1,r18.2.2.2.2.2.1,r18.2.2.2.2.2.2.1,r18.2.2.2.2.2.2.2)).bind fun r19 =>
 bif (inb x.1.1 (List.length r19.2.2.2.1)) then
 (Z22 (x.1.1,r19.2.1,r19.2.2.1,(List.set r19.2.2.2.1 (toN x.1.1) ((getAt ((0:Int),(0:Int),(0:Int),false) r19.2.2.2.1 (toN x.1.1)).1,(getAt ((0:Int),(0:Int),(0:Int),false) r19.2.2.2.1 (toN x.1.1)).2.1,(getAt ((0:Int),(0:Int),(0:Int),false) r19.2.2.2.1 (toN x.1.1)).2.2.1,false)),r19.2.2.2.2.1,r19.2.2.2.2.2.1,r19.2.2.2.2.2.2.1,r19.2.2.2.2.2.2.2)).bind fun r20 =>
 (loop Zb7 ((((List.length r20.2.2.2.1):Nat):Int),(0:Int),r20.1,r20.2.1,x.1,r20.2.2.2.1,r20.2.2.1,r20.2.2.2.2.1,r20.2.2.2.2.2.1,r20.2.2.2.2.2.2)).bind fun r21 =>
 some (r21.1,r21.2.1,r21.2.2.1,r21.2.2.2.1,r21.2.2.2.2.1,r21.2.2.2.2.2.1,r21.2.2.2.2.2.2)
 else
 none
abbrev Zzu:=Spec.shp Zp8 Zuj Z1y
def Zf9:Ctx:={ tb:=mkTb T2.tbl,fx:=[(78,[],Zzy),(40,[],Z10f),(120,[],Zzw),(168,[],Zyx)],sum:=[(0,13,Yay Zmv Zl9 (loop Zb7))],nt:=120,pin:=1,nr:=true,ys:=[] }
theorem Z1z:Sound Tryz.prog 123 (Zzu) :=
 Sound.shp (C:=Zf9) (fn:=Tryz.f123) (by kernel_rfl) (c:=bodyOf Tryz.f123) (by kernel_rfl) (by decide) (ctxOK mixed tbl_ok rfl ⟨Z27,Z36,Z23,Z3,trivial⟩ trivial) (SumOK.of ⟨(Yb0 (d:=.loop (loopOf 13 Tryz.f123)) (by kernel_rfl) Zb8),trivial⟩) (by kernel_rfl) Zp8 Zuj rfl (by decide) (by decide) rfl (by decide) rfl Z1y (fun x=>by kernel_rfl)
abbrev Zpj:Shape:={ sl:=sl_29,bl:=bl_2,ts:=[y5,(.int .i64),.bool,y39,y4,y18,y41,y19,y26,y27],pin:=0 }
abbrev Zuu:Shape:={ sl:=[],bl:=bl_2,ts:=ts_11,pin:=1 }
def Z2k (x:(T7 × Int × Bool × T47 × (Int × Int) × List (T17) × List T43 × List (T18) × List T29 × List (T20))):Option T57 :=
 (Z2g (x.1,x.2.1,x.2.2.1,x.2.2.2.1,x.2.2.2.2.1,x.2.2.2.2.2.1,x.2.2.2.2.2.2.1,x.2.2.2.2.2.2.2.1,x.2.2.2.2.2.2.2.2.1,x.2.2.2.2.2.2.2.2.2)).bind fun r16 =>
 bif (r16.1.1 == (0:Int)) then
 (Z39 (x.1.1,r16.2.1,r16.2.2.1,r16.2.2.2.1,r16.2.2.2.2.1,r16.2.2.2.2.2.1,r16.2.2.2.2.2.2.1,r16.2.2.2.2.2.2.2)).bind fun r17 =>
 some (r17.1,r17.2.1,r17.2.2.1,r17.2.2.2.1,r17.2.2.2.2.1,r17.2.2.2.2.2.1,r17.2.2.2.2.2.2)
 else
 bif (r16.1.1 == (3:Int)) then
 some (r16.2.1,(r16.2.2.1.1,(3:Int)),r16.2.2.2.1,r16.2.2.2.2.1,r16.2.2.2.2.2.1,r16.2.2.2.2.2.2.1,r16.2.2.2.2.2.2.2)
 else
 bif (r16.1.2.2.1.1 != (Int.negSucc 0)) then
 (Z1y (r16.1.2.2.1,x.2.1,r16.1.2.2.2,(1:Int),r16.2.1,r16.2.2.1,r16.2.2.2.1,r16.2.2.2.2.1,r16.2.2.2.2.2.1,r16.2.2.2.2.2.2.1,r16.2.2.2.2.2.2.2)).bind fun r17 =>
 (Z1y (x.1,x.2.1,r16.1.2.1,r16.1.1,r17.1,r17.2.1,r17.2.2.1,r17.2.2.2.1,r17.2.2.2.2.1,r17.2.2.2.2.2.1,r17.2.2.2.2.2.2)).bind fun r18 =>
 some (r18.1,r18.2.1,r18.2.2.1,r18.2.2.2.1,r18.2.2.2.2.1,r18.2.2.2.2.2.1,r18.2.2.2.2.2.2)
 else
 (Z1y (x.1,x.2.1,r16.1.2.1,r16.1.1,r16.2.1,r16.2.2.1,r16.2.2.2.1,r16.2.2.2.2.1,r16.2.2.2.2.2.1,r16.2.2.2.2.2.2.1,r16.2.2.2.2.2.2.2)).bind fun r17 =>
 some (r17.1,r17.2.1,r17.2.2.1,r17.2.2.2.1,r17.2.2.2.2.1,r17.2.2.2.2.2.1,r17.2.2.2.2.2.2)
abbrev Z105:=Spec.shp Zpj Zuu Z2k
def Zfm:Ctx:={ tb:=mkTb T2.tbl,fx:=[(124,[],Z103),(125,[],Z10h),(123,[],Zzu)],sum:=[],nt:=47,pin:=1,nr:=true,ys:=[] }
theorem Z2l:Sound Tryz.prog 121 (Z105) :=
 Sound.shp (C:=Zfm) (fn:=Tryz.f121) (by kernel_rfl) (c:=bodyOf Tryz.f121) (by kernel_rfl) (by decide) (ctxOK mixed tbl_ok rfl ⟨Z2h,Z3a,Z1z,trivial⟩ trivial) (SumOK.of trivial) (by kernel_rfl) Zpj Zuu rfl (by decide) (by decide) rfl (by decide) rfl Z2k (fun x=>by kernel_rfl)
abbrev Zpn:Shape:={ sl:=sl_26,bl:=bl_2,ts:=ts_14,pin:=0 }
abbrev Zuy:Shape:={ sl:=[],bl:=bl_2,ts:=ts_11,pin:=1 }
def Z2s (x:T60):Option T57 :=
 (Z35 (x.1.1,(2:Int),x.2.1.2.1,(0:Int),(Int.negSucc 0),x.2.2.1,x.2.2.2.1,x.2.2.2.2.1,x.2.2.2.2.2.1,x.2.2.2.2.2.2.1,x.2.2.2.2.2.2.2.1,x.2.2.2.2.2.2.2.2)).bind fun r14 =>
 (Z2k ((x.1.1,(0:Int),r14.1),x.2.1.2.1,true,r14.2.1,r14.2.2.1,r14.2.2.2.1,r14.2.2.2.2.1,r14.2.2.2.2.2.1,r14.2.2.2.2.2.2.1,r14.2.2.2.2.2.2.2)).bind fun r15 =>
 some (r15.1,r15.2.1,r15.2.2.1,r15.2.2.2.1,r15.2.2.2.2.1,r15.2.2.2.2.2.1,r15.2.2.2.2.2.2)
abbrev Z109:=Spec.shp Zpn Zuy Z2s
def Zfr:Ctx:={ tb:=mkTb T2.tbl,fx:=[(40,[],Z10f),(121,[],Z105)],sum:=[],nt:=21,pin:=1,nr:=true,ys:=[] }
theorem Z2t:Sound Tryz.prog 65 (Z109) :=
 Sound.shp (C:=Zfr) (fn:=Tryz.f65) (by kernel_rfl) (c:=bodyOf Tryz.f65) (by kernel_rfl) (by decide) (ctxOK mixed tbl_ok rfl ⟨Z36,Z2l,trivial⟩ trivial) (SumOK.of trivial) (by kernel_rfl) Zpn Zuy rfl (by decide) (by decide) rfl (by decide) rfl Z2s (fun x=>by kernel_rfl)
abbrev Zpl:Shape:={ sl:=sl_26,bl:=bl_2,ts:=ts_14,pin:=0 }
abbrev Zuw:Shape:={ sl:=[],bl:=bl_2,ts:=ts_11,pin:=1 }
def Z2o (x:T60):Option T57 :=
 (Z35 (x.1.1,(4:Int),x.2.1.2.1,(0:Int),(Int.negSucc 0),x.2.2.1,x.2.2.2.1,x.2.2.2.2.1,x.2.2.2.2.2.1,x.2.2.2.2.2.2.1,x.2.2.2.2.2.2.2.1,x.2.2.2.2.2.2.2.2)).bind fun r14 =>
 (Z2k ((x.1.1,(0:Int),r14.1),x.2.1.2.1,false,r14.2.1,r14.2.2.1,r14.2.2.2.1,r14.2.2.2.2.1,r14.2.2.2.2.2.1,r14.2.2.2.2.2.2.1,r14.2.2.2.2.2.2.2)).bind fun r15 =>
 some (r15.1,r15.2.1,r15.2.2.1,r15.2.2.2.1,r15.2.2.2.2.1,r15.2.2.2.2.2.1,r15.2.2.2.2.2.2)
abbrev Z107:=Spec.shp Zpl Zuw Z2o
def Zfo:Ctx:={ tb:=mkTb T2.tbl,fx:=[(40,[],Z10f),(121,[],Z105)],sum:=[],nt:=21,pin:=1,nr:=true,ys:=[] }
theorem Z2p:Sound Tryz.prog 66 (Z107) :=
 Sound.shp (C:=Zfo) (fn:=Tryz.f66) (by kernel_rfl) (c:=bodyOf Tryz.f66) (by kernel_rfl) (by decide) (ctxOK mixed tbl_ok rfl ⟨Z36,Z2l,trivial⟩ trivial) (SumOK.of trivial) (by kernel_rfl) Zpl Zuw rfl (by decide) (by decide) rfl (by decide) rfl Z2o (fun x=>by kernel_rfl)
abbrev Zoa:Shape:={ sl:=[(0,(.hole y40))],bl:=[],ts:=[y40],pin:=0 }
abbrev Ztl:Shape:={ sl:=[(0,(.hole y40)),(1,(.hole (.slice y5))),(2,(.hole .bool)),(3,(.hole (.int .i64)))],bl:=[],ts:=[y40,(.slice y5),.bool,(.int .i64)],pin:=0 }
def Z0 (x:T43):Option ((Int × T40) × List (T7) × Bool × Int) :=
 (Za x).bind fun r15 =>
 bif (Bool.not r15) then
 some (((0:Int),false,((0:Int),(0:Int),([]:List Int),(0:Int)),(0:Int),(0:Int),([]:List T7),([]:List T7)),([]:List T7),false,(1:Int))
 else
 bif (decide (x.1 < (0:Int))) then
 some (x,([]:List T7),true,(0:Int))
 else
 bif x.2.1 then
 some (x,([]:List T7),true,(0:Int))
 else
 bif (decide ((((List.length x.2.2.2.2.2.1):Nat):Int) > (0:Int))) then
 some (x,([]:List T7),true,(0:Int))
 else
 some ((x.1,true,x.2.2.1,x.2.2.2.1,x.2.2.2.2.1,x.2.2.2.2.2.1,([]:List T7)),x.2.2.2.2.2.2,false,(0:Int))
abbrev Zyw:=Spec.shp Zoa Ztl Z0
def Ze4:Ctx:={ tb:=mkTb T2.tbl,fx:=[(112,[],Zz1)],sum:=[],nt:=31,pin:=0,nr:=true,ys:=[] }
theorem Z1:Sound Tryz.prog 122 (Zyw) :=
 Sound.shp (C:=Ze4) (fn:=Tryz.f122) (by kernel_rfl) (c:=bodyOf Tryz.f122) (by kernel_rfl) (by decide) (ctxOK mixed tbl_ok rfl ⟨Zb,trivial⟩ trivial) (SumOK.of trivial) (by kernel_rfl) Zoa Ztl rfl (by decide) (by decide) rfl (by decide) rfl Z0 (fun x=>by kernel_rfl)
abbrev Zmy:Shape:={ sl:=[(0,(.ptr 0 [])),(5,(.ptr 1 [])),(10,(.mp 2)),(53,(.hole (.slice y5))),(54,(.hole (.int .i64))),(55,(.hole (.int .i64)))],bl:=[.var (.pr (.pr (.hole y39) (.pr (.sl 3) (.pr (.sl 4) (.pr (.sl 5) (.pr (.sl 6) (.hole y4)))))) (.sl 7)),.var (.hole y5),.mp (.int .i64) (.int .i64),.row y12,.row y40,.row y15,.row y23,.row y24],ts:=[(.slice y5),(.int .i64),(.int .i64),y39,y4,y5,(.slice y4),y18,y41,y19,y26,y27],pin:=1 }
abbrev Zlc:List (ETag × Shape):=[(.exit 0,{ sl:=[],bl:=bl_2,ts:=ts_11,pin:=1 })]
def Zbd (x:(List (T7) × Int × Int × T47 × (Int × Int) × T7 × List (Int × Int) × List (T17) × List T43 × List (T18) × List T29 × List (T20))):Option ((List (T7) × Int × Int × T47 × (Int × Int) × T7 × List (Int × Int) × List (T17) × List T43 × List (T18) × List T29 × List (T20)) ⊕ (T57)) :=
 bif (decide (x.2.2.1 < x.2.1)) then
 bif (inb x.2.2.1 (List.length x.1)) then
 bif ((@mlook (Int) (Int) (Ty.beq (.int .i64)) (Ty.zero (.int .i64)) (getAt ((0:Int),(0:Int),(0:Int)) x.1 (toN x.2.2.1)).1 (@mput (Int) (Int) (Ty.beq (.int .i64)) (getAt ((0:Int),(0:Int),(0:Int)) x.1 (toN x.2.2.1)).1 (IntKind.wrap .i64 ((@mlook (Int) (Int) (Ty.beq (.int .i64)) (Ty.zero (.int .i64)) (getAt ((0:Int),(0:Int),(0:Int)) x.1 (toN x.2.2.1)).1 x.2.2.2.2.2.2.1)+(1:Int))) x.2.2.2.2.2.2.1)) == (1:Int)) then
 (Z1y ((getAt ((0:Int),(0:Int),(0:Int)) x.1 (toN x.2.2.1)),x.2.2.2.2.2.1.2.1,(0:Int),(2:Int),x.2.2.2.1,x.2.2.2.2.1,x.2.2.2.2.2.2.2.1,x.2.2.2.2.2.2.2.2.1,x.2.2.2.2.2.2.2.2.2.1,x.2.2.2.2.2.2.2.2.2.2.1,x.2.2.2.2.2.2.2.2.2.2.2)).bind fun r18 =>
 some (.inl (x.1,x.2.1,(IntKind.wrap .i64 (x.2.2.1+(1:Int))),r18.1,r18.2.1,x.2.2.2.2.2.1,(@mput (Int) (Int) (Ty.beq (.int .i64)) (getAt ((0:Int),(0:Int),(0:Int)) x.1 (toN x.2.2.1)).1 (IntKind.wrap .i64 ((@mlook (Int) (Int) (Ty.beq (.int .i64)) (Ty.zero (.int .i64)) (getAt ((0:Int),(0:Int),(0:Int)) x.1 (toN x.2.2.1)).1 x.2.2.2.2.2.2.1)+(1:Int))) x.2.2.2.2.2.2.1),r18.2.2.1,r18.2.2.2.1,r18.2.2.2.2.1,r18.2.2.2.2.2.1,r18.2.2.2.2.2.2))
 else
 some (.inl (x.1,x.2.1,(IntKind.wrap .i64 (x.2.2.1+(1:Int))),x.2.2.2.1,x.2.2.2.2.1,x.2.2.2.2.2.1,(@mput (Int) (Int) (Ty.beq (.int .i64)) (getAt ((0:Int),(0:Int),(0:Int)) x.1 (toN x.2.2.1)).1 (IntKind.wrap .i64 ((@mlook (Int) (Int) (Ty.beq (.int .i64)) (Ty.zero (.int .i64)) (getAt ((0:Int),(0:Int),(0:Int)) x.1 (toN x.2.2.1)).1 x.2.2.2.2.2.2.1)+(1:Int))) x.2.2.2.2.2.2.1),x.2.2.2.2.2.2.2.1,x.2.2.2.2.2.2.2.2.1,x.2.2.2.2.2.2.2.2.2.1,x.2.2.2.2.2.2.2.2.2.2.1,x.2.2.2.2.2.2.2.2.2.2.2))
 else
 none
 else
 some (.inr (x.2.2.2.1,x.2.2.2.2.1,x.2.2.2.2.2.2.2.1,x.2.2.2.2.2.2.2.2.1,x.2.2.2.2.2.2.2.2.2.1,x.2.2.2.2.2.2.2.2.2.2.1,x.2.2.2.2.2.2.2.2.2.2.2))
def Zfw:Ctx:={ tb:=mkTb T2.tbl,fx:=[(122,[],Zyw),(40,[],Z10f),(120,[],Zzw),(123,[],Zzu)],sum:=[],nt:=75,pin:=1,nr:=true,ys:=[] }
theorem Zbe:CSound Tryz.prog ⟨75,1,true⟩ (.loop (loopOf 10 Tryz.f67)) (Yay Zmy Zlc (loop Zbd)) :=
 Y8c (C:=Zfw) (ctxOK mixed tbl_ok rfl ⟨Z1,Z36,Z23,Z1z,trivial⟩ trivial) (SumOK.of trivial) Zmy Zlc rfl rfl Zbd (fun x=>by kernel_rfl)
abbrev Zpr:Shape:={ sl:=sl_26,bl:=bl_2,ts:=ts_14,pin:=0 }
abbrev Zv2:Shape:={ sl:=[],bl:=bl_2,ts:=ts_11,pin:=1 }
def Z31 (x:T60):Option T57 :=
 bif (inb x.2.1.2.1 (List.length x.2.2.2.2.2.1)) then
 (Z0 (getAt ((0:Int),false,((0:Int),(0:Int),([]:List Int),(0:Int)),(0:Int),(0:Int),([]:List T7),([]:List T7)) x.2.2.2.2.2.1 (toN x.2.1.2.1))).bind fun r14 =>
 bif r14.2.2.1 then
 some (x.2.2.1,(x.2.2.2.1.1,(3:Int)),x.2.2.2.2.1,x.2.2.2.2.2.1,x.2.2.2.2.2.2.1,x.2.2.2.2.2.2.2.1,x.2.2.2.2.2.2.2.2)
 else
 bif (inb x.2.1.2.1 (List.length x.2.2.2.2.2.1)) then
 (Z35 (x.1.1,(7:Int),x.2.1.2.1,(0:Int),(Int.negSucc 0),x.2.2.1,x.2.2.2.1,x.2.2.2.2.1,(List.set x.2.2.2.2.2.1 (toN x.2.1.2.1) r14.1),x.2.2.2.2.2.2.1,x.2.2.2.2.2.2.2.1,x.2.2.2.2.2.2.2.2)).bind fun r15 =>
 (Z22 (x.1.1,r15.2.1,r15.2.2.1,r15.2.2.2.1,r15.2.2.2.2.1,r15.2.2.2.2.2.1,r15.2.2.2.2.2.2.1,r15.2.2.2.2.2.2.2)).bind fun r16 =>
 (loop Zbd (r14.2.1,(((List.length r14.2.1):Nat):Int),(0:Int),r16.1,r16.2.1,x.2.1,([]:List (Int × Int)),r16.2.2.1,r16.2.2.2.1,r16.2.2.2.2.1,r16.2.2.2.2.2.1,r16.2.2.2.2.2.2)).bind fun r17 =>
 some (r17.1,r17.2.1,r17.2.2.1,r17.2.2.2.1,r17.2.2.2.2.1,r17.2.2.2.2.2.1,r17.2.2.2.2.2.2)
 else
 none
 else
 none
abbrev Z10d:=Spec.shp Zpr Zv2 Z31
def Zfv:Ctx:={ tb:=mkTb T2.tbl,fx:=[(122,[],Zyw),(40,[],Z10f),(120,[],Zzw),(123,[],Zzu)],sum:=[(0,10,Yay Zmy Zlc (loop Zbd))],nt:=75,pin:=1,nr:=true,ys:=[] }
theorem Z32:Sound Tryz.prog 67 (Z10d) :=
 Sound.shp (C:=Zfv) (fn:=Tryz.f67) (by kernel_rfl) (c:=bodyOf Tryz.f67) (by kernel_rfl) (by decide) (ctxOK mixed tbl_ok rfl ⟨Z1,Z36,Z23,Z1z,trivial⟩ trivial) (SumOK.of ⟨(Yb0 (d:=.loop (loopOf 10 Tryz.f67)) (by kernel_rfl) Zbe),trivial⟩) (by kernel_rfl) Zpr Zv2 rfl (by decide) (by decide) rfl (by decide) rfl Z31 (fun x=>by kernel_rfl)
abbrev Zmx:Shape:={ sl:=[(0,(.ptr 0 [])),(4,(.ptr 1 [])),(6,(.hole (.int .i64))),(28,(.hole (.slice y2))),(29,(.hole (.int .i64))),(30,(.hole (.int .i64)))],bl:=bl_15,ts:=[(.int .i64),(.slice y2),(.int .i64),(.int .i64),y39,y4,y4,y18,y41,y19,y26,y27],pin:=1 }
abbrev Zlb:List (ETag × Shape):=[(.exit 1,{ sl:=[(0,(.ptr 0 [])),(4,(.ptr 1 []))],bl:=bl_15,ts:=[y39,y4,y4,y18,y41,y19,y26,y27],pin:=1 })]
def Zbb (x:(Int × List T0 × Int × Int × T47 × (Int × Int) × (Int × Int) × List (T17) × List T43 × List (T18) × List T29 × List (T20))):Option ((Int × List T0 × Int × Int × T47 × (Int × Int) × (Int × Int) × List (T17) × List T43 × List (T18) × List T29 × List (T20)) ⊕ (T47 × (Int × Int) × (Int × Int) × List (T17) × List T43 × List (T18) × List T29 × List (T20))) :=
 bif (decide (x.2.2.2.1 < x.2.2.1)) then
 bif (inb x.2.2.2.1 (List.length x.2.1)) then
 (Z2g ((x.2.2.2.2.2.2.1.1,x.2.2.2.1,x.1),(getAt (false,(0:Int)) x.2.1 (toN x.2.2.2.1)).2,(getAt (false,(0:Int)) x.2.1 (toN x.2.2.2.1)).1,x.2.2.2.2.1,x.2.2.2.2.2.1,x.2.2.2.2.2.2.2.1,x.2.2.2.2.2.2.2.2.1,x.2.2.2.2.2.2.2.2.2.1,x.2.2.2.2.2.2.2.2.2.2.1,x.2.2.2.2.2.2.2.2.2.2.2)).bind fun r16 =>
 some (.inl (x.1,x.2.1,x.2.2.1,(IntKind.wrap .i64 (x.2.2.2.1+(1:Int))),r16.2.1,r16.2.2.1,x.2.2.2.2.2.2.1,r16.2.2.2.1,r16.2.2.2.2.1,r16.2.2.2.2.2.1,r16.2.2.2.2.2.2.1,r16.2.2.2.2.2.2.2))
 else
 none
 else
 some (.inr (x.2.2.2.2.1,x.2.2.2.2.2.1,x.2.2.2.2.2.2.1,x.2.2.2.2.2.2.2.1,x.2.2.2.2.2.2.2.2.1,x.2.2.2.2.2.2.2.2.2.1,x.2.2.2.2.2.2.2.2.2.2.1,x.2.2.2.2.2.2.2.2.2.2.2))
def Zfq:Ctx:={ tb:=mkTb T2.tbl,fx:=[(40,[],Z10f),(121,[],Z105),(120,[],Zzw),(124,[],Z103)],sum:=[],nt:=87,pin:=1,nr:=true,ys:=[] }
theorem Zbc:CSound Tryz.prog ⟨87,1,true⟩ (.loop (loopOf 5 Tryz.f68)) (Yay Zmx Zlb (loop Zbb)) :=
 Y8c (C:=Zfq) (ctxOK mixed tbl_ok rfl ⟨Z36,Z2l,Z23,Z2h,trivial⟩ trivial) (SumOK.of trivial) Zmx Zlb rfl rfl Zbb (fun x=>by kernel_rfl)
abbrev Zpm:Shape:={ sl:=sl_26,bl:=bl_2,ts:=ts_14,pin:=0 }
abbrev Zux:Shape:={ sl:=[],bl:=bl_2,ts:=ts_11,pin:=1 }
def Z2q (x:T60):Option T57 :=
 (Z35 (x.1.1,(8:Int),x.2.1.2.1,(0:Int),(Int.negSucc 0),x.2.2.1,x.2.2.2.1,x.2.2.2.2.1,x.2.2.2.2.2.1,x.2.2.2.2.2.2.1,x.2.2.2.2.2.2.2.1,x.2.2.2.2.2.2.2.2)).bind fun r14 =>
 bif (inb x.2.1.2.1 (List.length r14.2.1.2.2.2.2.1)) then
 bif (x.1.2 != (Int.negSucc 0)) then
 bif (inb x.1.2 (List.length (getAt (([]:List T0),false) r14.2.1.2.2.2.2.1 (toN x.2.1.2.1)).1)) then
 (Z2k ((x.1.1,x.1.2,r14.1),(getAt (false,(0:Int)) (getAt (([]:List T0),false) r14.2.1.2.2.2.2.1 (toN x.2.1.2.1)).1 (toN x.1.2)).2,(getAt (false,(0:Int)) (getAt (([]:List T0),false) r14.2.1.2.2.2.2.1 (toN x.2.1.2.1)).1 (toN x.1.2)).1,r14.2.1,r14.2.2.1,r14.2.2.2.1,r14.2.2.2.2.1,r14.2.2.2.2.2.1,r14.2.2.2.2.2.2.1,r14.2.2.2.2.2.2.2)).bind fun r15 =>
 some (r15.1,r15.2.1,r15.2.2.1,r15.2.2.2.1,r15.2.2.2.2.1,r15.2.2.2.2.2.1,r15.2.2.2.2.2.2)
 else
 none
 else
 bif (getAt (([]:List T0),false) r14.2.1.2.2.2.2.1 (toN x.2.1.2.1)).2 then
 (Z35 (x.1.1,(9:Int),x.2.1.2.1,(0:Int),r14.1,r14.2.1,r14.2.2.1,r14.2.2.2.1,r14.2.2.2.2.1,r14.2.2.2.2.2.1,r14.2.2.2.2.2.2.1,r14.2.2.2.2.2.2.2)).bind fun r15 =>
 (Z22 (x.1.1,r15.2.1,r15.2.2.1,r15.2.2.2.1,r15.2.2.2.2.1,r15.2.2.2.2.2.1,r15.2.2.2.2.2.2.1,r15.2.2.2.2.2.2.2)).bind fun r16 =>
 some (r16.1,r16.2.1,r16.2.2.1,r16.2.2.2.1,r16.2.2.2.2.1,r16.2.2.2.2.2.1,r16.2.2.2.2.2.2)
 else
 (loop Zbb (r14.1,(getAt (([]:List T0),false) r14.2.1.2.2.2.2.1 (toN x.2.1.2.1)).1,(((List.length (getAt (([]:List T0),false) r14.2.1.2.2.2.2.1 (toN x.2.1.2.1)).1):Nat):Int),(0:Int),r14.2.1,r14.2.2.1,x.1,r14.2.2.2.1,r14.2.2.2.2.1,r14.2.2.2.2.2.1,r14.2.2.2.2.2.2.1,r14.2.2.2.2.2.2.2)).bind fun r15 =>
 (Z39 (r15.2.2.1.1,r15.1,r15.2.1,r15.2.2.2.1,r15.2.2.2.2.1,r15.2.2.2.2.2.1,r15.2.2.2.2.2.2.1,r15.2.2.2.2.2.2.2)).bind fun r16 =>
 some (r16.1,r16.2.1,r16.2.2.1,r16.2.2.2.1,r16.2.2.2.2.1,r16.2.2.2.2.2.1,r16.2.2.2.2.2.2)
 else
 none
abbrev Z108:=Spec.shp Zpm Zux Z2q
def Zfp:Ctx:={ tb:=mkTb T2.tbl,fx:=[(40,[],Z10f),(121,[],Z105),(120,[],Zzw),(124,[],Z103),(125,[],Z10h)],sum:=[(0,5,Yay Zmx Zlb (loop Zbb))],nt:=87,pin:=1,nr:=true,ys:=[] }
theorem Z2r:Sound Tryz.prog 68 (Z108) :=
 Sound.shp (C:=Zfp) (fn:=Tryz.f68) (by kernel_rfl) (c:=bodyOf Tryz.f68) (by kernel_rfl) (by decide) (ctxOK mixed tbl_ok rfl ⟨Z36,Z2l,Z23,Z2h,Z3a,trivial⟩ trivial) (SumOK.of ⟨(Yb0 (d:=.loop (loopOf 5 Tryz.f68)) (by kernel_rfl) Zbc),trivial⟩) (by kernel_rfl) Zpm Zux rfl (by decide) (by decide) rfl (by decide) rfl Z2q (fun x=>by kernel_rfl)
abbrev Zot:Shape:={ sl:=[(0,(.hole (.one (.slice y5))))],bl:=[],ts:=[(.one (.slice y5))],pin:=0 }
abbrev Zu4:Shape:={ sl:=[(0,(.hole y15))],bl:=[],ts:=[y15],pin:=0 }
def Z14 (x:(List (T7))):Option (T18) :=
 some (true,x)
abbrev Zzf:=Spec.shp Zot Zu4 Z14
def Zeo:Ctx:={ tb:=mkTb T2.tbl,fx:=[],sum:=[],nt:=6,pin:=0,nr:=true,ys:=[] }
theorem Z15:Sound Tryz.prog 172 (Zzf) :=
 Sound.shp (C:=Zeo) (fn:=Tryz.f172) (by kernel_rfl) (c:=bodyOf Tryz.f172) (by kernel_rfl) (by decide) (ctxOK mixed tbl_ok rfl trivial trivial) (SumOK.of trivial) (by kernel_rfl) Zot Zu4 rfl (by decide) (by decide) rfl (by decide) rfl Z14 (fun x=>by kernel_rfl)
abbrev Zos:Shape:={ sl:=[(0,(.hole y15)),(1,(.hole y5))],bl:=[],ts:=[y15,y5],pin:=0 }
abbrev Zu3:Shape:={ sl:=[(0,(.hole y15)),(1,(.hole .bool)),(2,(.hole (.int .i64)))],bl:=[],ts:=[y15,.bool,(.int .i64)],pin:=0 }
def Z12 (x:(T18 × T7)):Option (T18 × Bool × Int) :=
 (Zaj (x.1.2,x.2)).bind fun r16 =>
 (Z10 x.1).bind fun r17 =>
 bif (Bool.not r17) then
 some ((false,([]:List T7)),false,(1:Int))
 else
 bif (r16.2 == (1:Int)) then
 some ((false,([]:List T7)),false,(1:Int))
 else
 bif (Bool.not x.1.1) then
 (Z14 ([]:List T7)).bind fun r18 =>
 some (r18,true,(0:Int))
 else
 bif (r16.2 != (0:Int)) then
 some ((false,([]:List T7)),false,r16.2)
 else
 (Z14 r16.1).bind fun r18 =>
 some (r18,false,(0:Int))
abbrev Zze:=Spec.shp Zos Zu3 Z12
def Zen:Ctx:={ tb:=mkTb T2.tbl,fx:=[(171,[],Z141),(117,[],Zzd),(172,[],Zzf)],sum:=[],nt:=39,pin:=0,nr:=true,ys:=[] }
theorem Z13:Sound Tryz.prog 126 (Zze) :=
 Sound.shp (C:=Zen) (fn:=Tryz.f126) (by kernel_rfl) (c:=bodyOf Tryz.f126) (by kernel_rfl) (by decide) (ctxOK mixed tbl_ok rfl ⟨Zak,Z11,Z15,trivial⟩ trivial) (SumOK.of trivial) (by kernel_rfl) Zos Zu3 rfl (by decide) (by decide) rfl (by decide) rfl Z12 (fun x=>by kernel_rfl)
abbrev Zpf:Shape:={ sl:=[(0,(.ptr 0 [])),(1,(.hole (.int .i64))),(2,(.hole (.int .i64))),(3,(.hole (.int .i64)))],bl:=bl_2,ts:=[(.int .i64),(.int .i64),(.int .i64),y39,y4,y18,y41,y19,y26,y27],pin:=0 }
abbrev Zuq:Shape:={ sl:=[],bl:=bl_2,ts:=ts_11,pin:=1 }
def Z2c (x:(Int × Int × Int × T47 × (Int × Int) × List (T17) × List T43 × List (T18) × List T29 × List (T20))):Option T57 :=
 (Z35 (x.1,(11:Int),x.2.1,(0:Int),x.2.2.1,x.2.2.2.1,x.2.2.2.2.1,x.2.2.2.2.2.1,x.2.2.2.2.2.2.1,x.2.2.2.2.2.2.2.1,x.2.2.2.2.2.2.2.2.1,x.2.2.2.2.2.2.2.2.2)).bind fun r17 =>
 (Z22 (x.1,r17.2.1,r17.2.2.1,r17.2.2.2.1,r17.2.2.2.2.1,r17.2.2.2.2.2.1,r17.2.2.2.2.2.2.1,r17.2.2.2.2.2.2.2)).bind fun r18 =>
 some (r18.1,r18.2.1,r18.2.2.1,r18.2.2.2.1,r18.2.2.2.2.1,r18.2.2.2.2.2.1,r18.2.2.2.2.2.2)
abbrev Z101:=Spec.shp Zpf Zuq Z2c
def Zfi:Ctx:={ tb:=mkTb T2.tbl,fx:=[(40,[],Z10f),(120,[],Zzw)],sum:=[],nt:=16,pin:=1,nr:=true,ys:=[] }
theorem Z2d:Sound Tryz.prog 127 (Z101) :=
 Sound.shp (C:=Zfi) (fn:=Tryz.f127) (by kernel_rfl) (c:=bodyOf Tryz.f127) (by kernel_rfl) (by decide) (ctxOK mixed tbl_ok rfl ⟨Z36,Z23,trivial⟩ trivial) (SumOK.of trivial) (by kernel_rfl) Zpf Zuq rfl (by decide) (by decide) rfl (by decide) rfl Z2c (fun x=>by kernel_rfl)
abbrev Zpe:Shape:={ sl:=sl_26,bl:=bl_2,ts:=ts_14,pin:=0 }
abbrev Zup:Shape:={ sl:=[],bl:=bl_2,ts:=ts_11,pin:=1 }
def Z2a (x:T60):Option T57 :=
 (Z35 (x.1.1,(10:Int),x.2.1.2.1,(0:Int),(Int.negSucc 0),x.2.2.1,x.2.2.2.1,x.2.2.2.2.1,x.2.2.2.2.2.1,x.2.2.2.2.2.2.1,x.2.2.2.2.2.2.2.1,x.2.2.2.2.2.2.2.2)).bind fun r14 =>
 bif (inb x.2.1.2.1 (List.length r14.2.2.2.2.2.1)) then
 (Z12 ((getAt (false,([]:List T7)) r14.2.2.2.2.2.1 (toN x.2.1.2.1)),x.1.1,(0:Int),r14.1)).bind fun r15 =>
 bif (inb x.2.1.2.1 (List.length r14.2.2.2.2.2.1)) then
 bif (Bool.not r15.2.1) then
 (Z39 (x.1.1,r14.2.1,r14.2.2.1,r14.2.2.2.1,r14.2.2.2.2.1,(List.set r14.2.2.2.2.2.1 (toN x.2.1.2.1) r15.1),r14.2.2.2.2.2.2.1,r14.2.2.2.2.2.2.2)).bind fun r16 =>
 some (r16.1,r16.2.1,r16.2.2.1,r16.2.2.2.1,r16.2.2.2.2.1,r16.2.2.2.2.2.1,r16.2.2.2.2.2.2)
 else
 (Z2c (x.1.1,x.2.1.2.1,r14.1,r14.2.1,r14.2.2.1,r14.2.2.2.1,r14.2.2.2.2.1,(List.set r14.2.2.2.2.2.1 (toN x.2.1.2.1) r15.1),r14.2.2.2.2.2.2.1,r14.2.2.2.2.2.2.2)).bind fun r16 =>
 some (r16.1,r16.2.1,r16.2.2.1,r16.2.2.2.1,r16.2.2.2.2.1,r16.2.2.2.2.2.1,r16.2.2.2.2.2.2)
 else
 none
 else
 none
abbrev Z100:=Spec.shp Zpe Zup Z2a
def Zfh:Ctx:={ tb:=mkTb T2.tbl,fx:=[(40,[],Z10f),(126,[],Zze),(125,[],Z10h),(127,[],Z101)],sum:=[],nt:=56,pin:=1,nr:=true,ys:=[] }
theorem Z2b:Sound Tryz.prog 69 (Z100) :=
 Sound.shp (C:=Zfh) (fn:=Tryz.f69) (by kernel_rfl) (c:=bodyOf Tryz.f69) (by kernel_rfl) (by decide) (ctxOK mixed tbl_ok rfl ⟨Z36,Z13,Z3a,Z2d,trivial⟩ trivial) (SumOK.of trivial) (by kernel_rfl) Zpe Zup rfl (by decide) (by decide) rfl (by decide) rfl Z2a (fun x=>by kernel_rfl)
abbrev Zoq:Shape:={ sl:=[(0,(.hole y15))],bl:=[],ts:=[y15],pin:=0 }
abbrev Zu1:Shape:={ sl:=[(0,(.hole y15)),(1,(.hole y5)),(2,(.hole .bool)),(3,(.hole (.int .i64)))],bl:=[],ts:=[y15,y5,.bool,(.int .i64)],pin:=0 }
def Zy (x:(T18)):Option (T18 × T7 × Bool × Int) :=
 (Z10 x).bind fun r15 =>
 bif (Bool.not r15) then
 some ((false,([]:List T7)),((0:Int),(0:Int),(0:Int)),false,(1:Int))
 else
 bif (Bool.not x.1) then
 some ((false,([]:List T7)),((0:Int),(0:Int),(0:Int)),false,(6:Int))
 else
 bif ((((List.length x.2):Nat):Int) == (0:Int)) then
 some ((false,([]:List T7)),((0:Int),(0:Int),(0:Int)),false,(0:Int))
 else
 bif (sub3 (1:Int) (((List.length x.2):Nat):Int) (List.length x.2)) then
 (Z14 (cut x.2 (toN (1:Int)) ((toN (((List.length x.2):Nat):Int)) - (toN (1:Int))))).bind fun r16 =>
 bif (inb (0:Int) (List.length x.2)) then
 some (r16,(getAt ((0:Int),(0:Int),(0:Int)) x.2 (toN (0:Int))),true,(0:Int))
 else
 none
 else
 none
abbrev Zzc:=Spec.shp Zoq Zu1 Zy
def Zel:Ctx:={ tb:=mkTb T2.tbl,fx:=[(117,[],Zzd),(172,[],Zzf)],sum:=[],nt:=34,pin:=0,nr:=true,ys:=[] }
theorem Zz:Sound Tryz.prog 128 (Zzc) :=
 Sound.shp (C:=Zel) (fn:=Tryz.f128) (by kernel_rfl) (c:=bodyOf Tryz.f128) (by kernel_rfl) (by decide) (ctxOK mixed tbl_ok rfl ⟨Z11,Z15,trivial⟩ trivial) (SumOK.of trivial) (by kernel_rfl) Zoq Zu1 rfl (by decide) (by decide) rfl (by decide) rfl Zy (fun x=>by kernel_rfl)
abbrev Zpu:Shape:={ sl:=sl_26,bl:=bl_2,ts:=ts_14,pin:=0 }
abbrev Zv5:Shape:={ sl:=[],bl:=bl_2,ts:=ts_11,pin:=1 }
def Z37 (x:T60):Option T57 :=
 bif (inb x.2.1.2.1 (List.length x.2.2.2.2.2.2.1)) then
 (Zy (getAt (false,([]:List T7)) x.2.2.2.2.2.2.1 (toN x.2.1.2.1))).bind fun r14 =>
 bif (r14.2.2.2 != (0:Int)) then
 some (x.2.2.1,(x.2.2.2.1.1,(3:Int)),x.2.2.2.2.1,x.2.2.2.2.2.1,x.2.2.2.2.2.2.1,x.2.2.2.2.2.2.2.1,x.2.2.2.2.2.2.2.2)
 else
 bif (inb x.2.1.2.1 (List.length x.2.2.2.2.2.2.1)) then
 (Z35 (x.1.1,(12:Int),x.2.1.2.1,(0:Int),(Int.negSucc 0),x.2.2.1,x.2.2.2.1,x.2.2.2.2.1,x.2.2.2.2.2.1,(List.set x.2.2.2.2.2.2.1 (toN x.2.1.2.1) r14.1),x.2.2.2.2.2.2.2.1,x.2.2.2.2.2.2.2.2)).bind fun r15 =>
 (Z22 (x.1.1,r15.2.1,r15.2.2.1,r15.2.2.2.1,r15.2.2.2.2.1,r15.2.2.2.2.2.1,r15.2.2.2.2.2.2.1,r15.2.2.2.2.2.2.2)).bind fun r16 =>
 bif r14.2.2.1 then
 (Z2c (r14.2.1.1,x.2.1.2.1,r14.2.1.2.2,r16.1,r16.2.1,r16.2.2.1,r16.2.2.2.1,r16.2.2.2.2.1,r16.2.2.2.2.2.1,r16.2.2.2.2.2.2)).bind fun r17 =>
 some (r17.1,r17.2.1,r17.2.2.1,r17.2.2.2.1,r17.2.2.2.2.1,r17.2.2.2.2.2.1,r17.2.2.2.2.2.2)
 else
 some (r16.1,r16.2.1,r16.2.2.1,r16.2.2.2.1,r16.2.2.2.2.1,r16.2.2.2.2.2.1,r16.2.2.2.2.2.2)
 else
 none
 else
 none
abbrev Z10g:=Spec.shp Zpu Zv5 Z37
def Zfz:Ctx:={ tb:=mkTb T2.tbl,fx:=[(128,[],Zzc),(40,[],Z10f),(120,[],Zzw),(127,[],Z101)],sum:=[],nt:=59,pin:=1,nr:=true,ys:=[] }
theorem Z38:Sound Tryz.prog 70 (Z10g) :=
 Sound.shp (C:=Zfz) (fn:=Tryz.f70) (by kernel_rfl) (c:=bodyOf Tryz.f70) (by kernel_rfl) (by decide) (ctxOK mixed tbl_ok rfl ⟨Zz,Z36,Z23,Z2d,trivial⟩ trivial) (SumOK.of trivial) (by kernel_rfl) Zpu Zv5 rfl (by decide) (by decide) rfl (by decide) rfl Z37 (fun x=>by kernel_rfl)
abbrev Zq1:Shape:={ sl:=sl_30,bl:=[],ts:=[y23,y5],pin:=0 }
abbrev Zvc:Shape:={ sl:=sl_31,bl:=[],ts:=ts_15,pin:=0 }
def Z3l (x:T30):Option T34 :=
 some (((1:Int),x.2.1,([]:List T7)),(0:Int),(0:Int))
abbrev Z10n:=Spec.shp Zq1 Zvc Z3l
def Zg6:Ctx:={ tb:=mkTb T2.tbl,fx:=[],sum:=[],nt:=10,pin:=0,nr:=true,ys:=[] }
theorem Z3m:Sound Tryz.prog 173 (Z10n) :=
 Sound.shp (C:=Zg6) (fn:=Tryz.f173) (by kernel_rfl) (c:=bodyOf Tryz.f173) (by kernel_rfl) (by decide) (ctxOK mixed tbl_ok rfl trivial trivial) (SumOK.of trivial) (by kernel_rfl) Zq1 Zvc rfl (by decide) (by decide) rfl (by decide) rfl Z3l (fun x=>by kernel_rfl)
abbrev Zq3:Shape:={ sl:=sl_30,bl:=[],ts:=[y23,y5],pin:=0 }
abbrev Zve:Shape:={ sl:=sl_31,bl:=[],ts:=ts_15,pin:=0 }
def Z3p (x:T30):Option T34 :=
 bif (x.1.2.1 == x.2.1) then
 some (((0:Int),(0:Int),([]:List T7)),(0:Int),(6:Int))
 else
 (Zaj (x.1.2.2,x.2)).bind fun r18 =>
 bif (r18.2 != (0:Int)) then
 some (((0:Int),(0:Int),([]:List T7)),(0:Int),r18.2)
 else
 some ((x.1.1,x.1.2.1,r18.1),(1:Int),(0:Int))
abbrev Z10p:=Spec.shp Zq3 Zve Z3p
def Zg8:Ctx:={ tb:=mkTb T2.tbl,fx:=[(171,[],Z141)],sum:=[],nt:=29,pin:=0,nr:=true,ys:=[] }
theorem Z3q:Sound Tryz.prog 174 (Z10p) :=
 Sound.shp (C:=Zg8) (fn:=Tryz.f174) (by kernel_rfl) (c:=bodyOf Tryz.f174) (by kernel_rfl) (by decide) (ctxOK mixed tbl_ok rfl ⟨Zak,trivial⟩ trivial) (SumOK.of trivial) (by kernel_rfl) Zq3 Zve rfl (by decide) (by decide) rfl (by decide) rfl Z3p (fun x=>by kernel_rfl)
abbrev Zq2:Shape:={ sl:=sl_30,bl:=[],ts:=[y23,y5],pin:=0 }
abbrev Zvd:Shape:={ sl:=sl_31,bl:=[],ts:=ts_15,pin:=0 }
def Z3n (x:T30):Option T34 :=
 some (x.1,(2:Int),(0:Int))
abbrev Z10o:=Spec.shp Zq2 Zvd Z3n
def Zg7:Ctx:={ tb:=mkTb T2.tbl,fx:=[],sum:=[],nt:=8,pin:=0,nr:=true,ys:=[] }
theorem Z3o:Sound Tryz.prog 175 (Z10o) :=
 Sound.shp (C:=Zg7) (fn:=Tryz.f175) (by kernel_rfl) (c:=bodyOf Tryz.f175) (by kernel_rfl) (by decide) (ctxOK mixed tbl_ok rfl trivial trivial) (SumOK.of trivial) (by kernel_rfl) Zq2 Zvd rfl (by decide) (by decide) rfl (by decide) rfl Z3n (fun x=>by kernel_rfl)
abbrev Zpy:Shape:={ sl:=sl_30,bl:=[],ts:=[y23,y5],pin:=0 }
abbrev Zv9:Shape:={ sl:=sl_31,bl:=[],ts:=ts_15,pin:=0 }
def Z3f (x:T30):Option T34 :=
 (Z3j x.1).bind fun r16 =>
 bif (Bool.not r16) then
 some (((0:Int),(0:Int),([]:List T7)),(0:Int),(1:Int))
 else
 bif (decide (x.2.1 < (0:Int))) then
 some (((0:Int),(0:Int),([]:List T7)),(0:Int),(1:Int))
 else
 bif (decide (x.2.2.1 < (0:Int))) then
 some (((0:Int),(0:Int),([]:List T7)),(0:Int),(1:Int))
 else
 bif (decide (x.2.2.2 < (0:Int))) then
 some (((0:Int),(0:Int),([]:List T7)),(0:Int),(1:Int))
 else
 bif (x.1.1 == (((0:Nat):Nat):Int)) then
 (Z3l (x.1,x.2)).bind fun r17 =>
 some (r17.1,r17.2.1,r17.2.2)
 else
 bif (x.1.1 == ((((0:Nat)+(1:Nat)):Nat):Int)) then
 (Z3p (x.1,x.2)).bind fun r17 =>
 some (r17.1,r17.2.1,r17.2.2)
 else
 bif (x.1.1 == (((((0:Nat)+(1:Nat))+(1:Nat)):Nat):Int)) then
 (Z3n (x.1,x.2)).bind fun r17 =>
 some (r17.1,r17.2.1,r17.2.2)
 else
 none
abbrev Z10k:=Spec.shp Zpy Zv9 Z3f
def Zg3:Ctx:={ tb:=mkTb T2.tbl,fx:=[(118,[],Z10m),(173,[],Z10n),(174,[],Z10p),(175,[],Z10o)],sum:=[],nt:=42,pin:=0,nr:=true,ys:=[] }
theorem Z3g:Sound Tryz.prog 129 (Z10k) :=
 Sound.shp (C:=Zg3) (fn:=Tryz.f129) (by kernel_rfl) (c:=bodyOf Tryz.f129) (by kernel_rfl) (by decide) (ctxOK mixed tbl_ok rfl ⟨Z3k,Z3m,Z3q,Z3o,trivial⟩ trivial) (SumOK.of trivial) (by kernel_rfl) Zpy Zv9 rfl (by decide) (by decide) rfl (by decide) rfl Z3f (fun x=>by kernel_rfl)
abbrev Zps:Shape:={ sl:=sl_14,bl:=bl_2,ts:=[(.int .i64),(.int .i64),y39,y4,y18,y41,y19,y26,y27],pin:=0 }
abbrev Zv3:Shape:={ sl:=[],bl:=bl_2,ts:=ts_11,pin:=1 }
def Z33 (x:(Int × Int × T47 × (Int × Int) × List (T17) × List T43 × List (T18) × List T29 × List (T20))):Option T57 :=
 (Z26 (x.1,x.2.2.1,x.2.2.2.1,x.2.2.2.2.1,x.2.2.2.2.2.1,x.2.2.2.2.2.2.1,x.2.2.2.2.2.2.2.1,x.2.2.2.2.2.2.2.2)).bind fun r17 =>
 (Z35 (x.1,(15:Int),r17.1.2.1,(0:Int),x.2.1,r17.2.1,r17.2.2.1,r17.2.2.2.1,r17.2.2.2.2.1,r17.2.2.2.2.2.1,r17.2.2.2.2.2.2.1,r17.2.2.2.2.2.2.2)).bind fun r18 =>
 (Z24 (x.1,r17.1.2.2,r18.2.1,r18.2.2.1,r18.2.2.2.1,r18.2.2.2.2.1,r18.2.2.2.2.2.1,r18.2.2.2.2.2.2.1,r18.2.2.2.2.2.2.2)).bind fun r19 =>
 some (r19.1,r19.2.1,r19.2.2.1,r19.2.2.2.1,r19.2.2.2.2.1,r19.2.2.2.2.2.1,r19.2.2.2.2.2.2)
abbrev Z10e:=Spec.shp Zps Zv3 Z33
def Zfx:Ctx:={ tb:=mkTb T2.tbl,fx:=[(78,[],Zzy),(40,[],Z10f),(41,[],Zzx)],sum:=[],nt:=21,pin:=1,nr:=true,ys:=[] }
theorem Z34:Sound Tryz.prog 130 (Z10e) :=
 Sound.shp (C:=Zfx) (fn:=Tryz.f130) (by kernel_rfl) (c:=bodyOf Tryz.f130) (by kernel_rfl) (by decide) (ctxOK mixed tbl_ok rfl ⟨Z27,Z36,Z25,trivial⟩ trivial) (SumOK.of trivial) (by kernel_rfl) Zps Zv3 rfl (by decide) (by decide) rfl (by decide) rfl Z33 (fun x=>by kernel_rfl)
abbrev Zp7:Shape:={ sl:=sl_26,bl:=bl_2,ts:=ts_14,pin:=0 }
abbrev Zui:Shape:={ sl:=[],bl:=bl_2,ts:=ts_11,pin:=1 }
def Z1w (x:T60):Option T57 :=
 (Z35 (x.1.1,(13:Int),x.2.1.2.1,(0:Int),(Int.negSucc 0),x.2.2.1,x.2.2.2.1,x.2.2.2.2.1,x.2.2.2.2.2.1,x.2.2.2.2.2.2.1,x.2.2.2.2.2.2.2.1,x.2.2.2.2.2.2.2.2)).bind fun r14 =>
 bif (inb x.2.1.2.1 (List.length r14.2.2.2.2.2.2.1)) then
 (Z3f ((getAt ((0:Int),(0:Int),([]:List T7)) r14.2.2.2.2.2.2.1 (toN x.2.1.2.1)),x.1.1,(0:Int),r14.1)).bind fun r15 =>
 bif (r15.2.2 != (0:Int)) then
 (Z39 (x.1.1,r14.2.1,r14.2.2.1,r14.2.2.2.1,r14.2.2.2.2.1,r14.2.2.2.2.2.1,r14.2.2.2.2.2.2.1,r14.2.2.2.2.2.2.2)).bind fun r16 =>
 some (r16.1,r16.2.1,r16.2.2.1,r16.2.2.2.1,r16.2.2.2.2.1,r16.2.2.2.2.2.1,r16.2.2.2.2.2.2)
 else
 bif (inb x.2.1.2.1 (List.length r14.2.2.2.2.2.2.1)) then
 bif (r15.2.1 == (0:Int)) then
 (Z22 (x.1.1,r14.2.1,r14.2.2.1,r14.2.2.2.1,r14.2.2.2.2.1,r14.2.2.2.2.2.1,(List.set r14.2.2.2.2.2.2.1 (toN x.2.1.2.1) r15.1),r14.2.2.2.2.2.2.2)).bind fun r16 =>
 some (r16.1,r16.2.1,r16.2.2.1,r16.2.2.2.1,r16.2.2.2.2.1,r16.2.2.2.2.2.1,r16.2.2.2.2.2.2)
 else
 bif (r15.2.1 == (1:Int)) then
 (Z39 (x.1.1,r14.2.1,r14.2.2.1,r14.2.2.2.1,r14.2.2.2.2.1,r14.2.2.2.2.2.1,(List.set r14.2.2.2.2.2.2.1 (toN x.2.1.2.1) r15.1),r14.2.2.2.2.2.2.2)).bind fun r16 =>
 some (r16.1,r16.2.1,r16.2.2.1,r16.2.2.2.1,r16.2.2.2.2.1,r16.2.2.2.2.2.1,r16.2.2.2.2.2.2)
 else
 (Z33 (x.1.1,r14.1,r14.2.1,r14.2.2.1,r14.2.2.2.1,r14.2.2.2.2.1,r14.2.2.2.2.2.1,(List.set r14.2.2.2.2.2.2.1 (toN x.2.1.2.1) r15.1),r14.2.2.2.2.2.2.2)).bind fun r16 =>
 some (r16.1,r16.2.1,r16.2.2.1,r16.2.2.2.1,r16.2.2.2.2.1,r16.2.2.2.2.2.1,r16.2.2.2.2.2.2)
 else
 none
 else
 none
abbrev Zzt:=Spec.shp Zp7 Zui Z1w
def Zf8:Ctx:={ tb:=mkTb T2.tbl,fx:=[(40,[],Z10f),(129,[],Z10k),(125,[],Z10h),(120,[],Zzw),(130,[],Z10e)],sum:=[],nt:=67,pin:=1,nr:=true,ys:=[] }
theorem Z1x:Sound Tryz.prog 71 (Zzt) :=
 Sound.shp (C:=Zf8) (fn:=Tryz.f71) (by kernel_rfl) (c:=bodyOf Tryz.f71) (by kernel_rfl) (by decide) (ctxOK mixed tbl_ok rfl ⟨Z36,Z3g,Z3a,Z23,Z34,trivial⟩ trivial) (SumOK.of trivial) (by kernel_rfl) Zp7 Zui rfl (by decide) (by decide) rfl (by decide) rfl Z1w (fun x=>by kernel_rfl)
abbrev Zpz:Shape:={ sl:=[(0,(.hole y23)),(1,(.hole (.int .i64)))],bl:=[],ts:=[y23,(.int .i64)],pin:=0 }
abbrev Zva:Shape:={ sl:=[(0,(.hole y23)),(1,(.hole (.slice y5))),(2,(.hole (.int .i64)))],bl:=[],ts:=[y23,(.slice y5),(.int .i64)],pin:=0 }
def Z3h (x:((Int × T13) × Int)):Option ((Int × T13) × List (T7) × Int) :=
 (Z3j x.1).bind fun r15 =>
 bif (Bool.not r15) then
 some (((0:Int),(0:Int),([]:List T7)),([]:List T7),(1:Int))
 else
 bif (decide (x.2 < (0:Int))) then
 some (((0:Int),(0:Int),([]:List T7)),([]:List T7),(1:Int))
 else
 bif (x.1.1 != (1:Int)) then
 some (((0:Int),(0:Int),([]:List T7)),([]:List T7),(6:Int))
 else
 bif (x.1.2.1 != x.2) then
 some (((0:Int),(0:Int),([]:List T7)),([]:List T7),(6:Int))
 else
 some (((2:Int),(0:Int),([]:List T7)),x.1.2.2,(0:Int))
abbrev Z10l:=Spec.shp Zpz Zva Z3h
def Zg4:Ctx:={ tb:=mkTb T2.tbl,fx:=[(118,[],Z10m)],sum:=[],nt:=30,pin:=0,nr:=true,ys:=[] }
theorem Z3i:Sound Tryz.prog 131 (Z10l) :=
 Sound.shp (C:=Zg4) (fn:=Tryz.f131) (by kernel_rfl) (c:=bodyOf Tryz.f131) (by kernel_rfl) (by decide) (ctxOK mixed tbl_ok rfl ⟨Z3k,trivial⟩ trivial) (SumOK.of trivial) (by kernel_rfl) Zpz Zva rfl (by decide) (by decide) rfl (by decide) rfl Z3h (fun x=>by kernel_rfl)
abbrev Zmw:Shape:={ sl:=[(0,(.ptr 0 [])),(52,(.hole (.slice y5))),(53,(.hole (.int .i64))),(54,(.hole (.int .i64)))],bl:=bl_2,ts:=[(.slice y5),(.int .i64),(.int .i64),y39,y4,y18,y41,y19,y26,y27],pin:=1 }
abbrev Zla:List (ETag × Shape):=[(.exit 0,{ sl:=[],bl:=bl_2,ts:=ts_11,pin:=1 })]
def Zb9 (x:(List (T7) × Int × Int × T47 × (Int × Int) × List (T17) × List T43 × List (T18) × List T29 × List (T20))):Option ((List (T7) × Int × Int × T47 × (Int × Int) × List (T17) × List T43 × List (T18) × List T29 × List (T20)) ⊕ (T57)) :=
 bif (decide (x.2.2.1 < x.2.1)) then
 bif (inb x.2.2.1 (List.length x.1)) then
 (Z33 ((getAt ((0:Int),(0:Int),(0:Int)) x.1 (toN x.2.2.1)).1,(getAt ((0:Int),(0:Int),(0:Int)) x.1 (toN x.2.2.1)).2.2,x.2.2.2.1,x.2.2.2.2.1,x.2.2.2.2.2.1,x.2.2.2.2.2.2.1,x.2.2.2.2.2.2.2.1,x.2.2.2.2.2.2.2.2.1,x.2.2.2.2.2.2.2.2.2)).bind fun r18 =>
 some (.inl (x.1,x.2.1,(IntKind.wrap .i64 (x.2.2.1+(1:Int))),r18.1,r18.2.1,r18.2.2.1,r18.2.2.2.1,r18.2.2.2.2.1,r18.2.2.2.2.2.1,r18.2.2.2.2.2.2))
 else
 none
 else
 some (.inr (x.2.2.2.1,x.2.2.2.2.1,x.2.2.2.2.2.1,x.2.2.2.2.2.2.1,x.2.2.2.2.2.2.2.1,x.2.2.2.2.2.2.2.2.1,x.2.2.2.2.2.2.2.2.2))
def Zfc:Ctx:={ tb:=mkTb T2.tbl,fx:=[(131,[],Z10l),(40,[],Z10f),(120,[],Zzw),(130,[],Z10e)],sum:=[],nt:=65,pin:=1,nr:=true,ys:=[] }
theorem Zba:CSound Tryz.prog ⟨65,1,true⟩ (.loop (loopOf 9 Tryz.f72)) (Yay Zmw Zla (loop Zb9)) :=
 Y8c (C:=Zfc) (ctxOK mixed tbl_ok rfl ⟨Z3i,Z36,Z23,Z34,trivial⟩ trivial) (SumOK.of trivial) Zmw Zla rfl rfl Zb9 (fun x=>by kernel_rfl)
abbrev Zp9:Shape:={ sl:=sl_26,bl:=bl_2,ts:=ts_14,pin:=0 }
abbrev Zuk:Shape:={ sl:=[],bl:=bl_2,ts:=ts_11,pin:=1 }
def Z20 (x:T60):Option T57 :=
 bif (inb x.2.1.2.1 (List.length x.2.2.2.2.2.2.2.1)) then
 (Z3h ((getAt ((0:Int),(0:Int),([]:List T7)) x.2.2.2.2.2.2.2.1 (toN x.2.1.2.1)),x.1.1)).bind fun r14 =>
 bif (r14.2.2 != (0:Int)) then
 some (x.2.2.1,(x.2.2.2.1.1,(3:Int)),x.2.2.2.2.1,x.2.2.2.2.2.1,x.2.2.2.2.2.2.1,x.2.2.2.2.2.2.2.1,x.2.2.2.2.2.2.2.2)
 else
 bif (inb x.2.1.2.1 (List.length x.2.2.2.2.2.2.2.1)) then
 (Z35 (x.1.1,(14:Int),x.2.1.2.1,(0:Int),(Int.negSucc 0),x.2.2.1,x.2.2.2.1,x.2.2.2.2.1,x.2.2.2.2.2.1,x.2.2.2.2.2.2.1,(List.set x.2.2.2.2.2.2.2.1 (toN x.2.1.2.1) r14.1),x.2.2.2.2.2.2.2.2)).bind fun r15 =>
 (Z22 (x.1.1,r15.2.1,r15.2.2.1,r15.2.2.2.1,r15.2.2.2.2.1,r15.2.2.2.2.2.1,r15.2.2.2.2.2.2.1,r15.2.2.2.2.2.2.2)).bind fun r16 =>
 (loop Zb9 (r14.2.1,(((List.length r14.2.1):Nat):Int),(0:Int),r16.1,r16.2.1,r16.2.2.1,r16.2.2.2.1,r16.2.2.2.2.1,r16.2.2.2.2.2.1,r16.2.2.2.2.2.2)).bind fun r17 =>
 some (r17.1,r17.2.1,r17.2.2.1,r17.2.2.2.1,r17.2.2.2.2.1,r17.2.2.2.2.2.1,r17.2.2.2.2.2.2)
 else
 none
 else
 none
abbrev Zzv:=Spec.shp Zp9 Zuk Z20
def Zfb:Ctx:={ tb:=mkTb T2.tbl,fx:=[(131,[],Z10l),(40,[],Z10f),(120,[],Zzw),(130,[],Z10e)],sum:=[(0,9,Yay Zmw Zla (loop Zb9))],nt:=65,pin:=1,nr:=true,ys:=[] }
theorem Z21:Sound Tryz.prog 72 (Zzv) :=
 Sound.shp (C:=Zfb) (fn:=Tryz.f72) (by kernel_rfl) (c:=bodyOf Tryz.f72) (by kernel_rfl) (by decide) (ctxOK mixed tbl_ok rfl ⟨Z3i,Z36,Z23,Z34,trivial⟩ trivial) (SumOK.of ⟨(Yb0 (d:=.loop (loopOf 9 Tryz.f72)) (by kernel_rfl) Zba),trivial⟩) (by kernel_rfl) Zp9 Zuk rfl (by decide) (by decide) rfl (by decide) rfl Z20 (fun x=>by kernel_rfl)
abbrev Zp6:Shape:={ sl:=sl_26,bl:=bl_2,ts:=ts_14,pin:=0 }
abbrev Zuh:Shape:={ sl:=[],bl:=bl_2,ts:=ts_11,pin:=1 }
def Z1u (x:T60):Option T57 :=
 bif ((((List.length x.2.2.2.2.1):Nat):Int) == (8:Int)) then
 some (x.2.2.1,(x.2.2.2.1.1,(4:Int)),x.2.2.2.2.1,x.2.2.2.2.2.1,x.2.2.2.2.2.2.1,x.2.2.2.2.2.2.2.1,x.2.2.2.2.2.2.2.2)
 else
 (Z35 (x.1.1,(1:Int),(((List.length x.2.2.2.2.1):Nat):Int),(0:Int),(Int.negSucc 0),x.2.2.1,x.2.2.2.1,x.2.2.2.2.1,x.2.2.2.2.2.1,x.2.2.2.2.2.2.1,x.2.2.2.2.2.2.2.1,x.2.2.2.2.2.2.2.2)).bind fun r14 =>
 (Z35 ((((List.length x.2.2.2.2.1):Nat):Int),(0:Int),(0:Int),(0:Int),r14.1,r14.2.1,r14.2.2.1,r14.2.2.2.1,r14.2.2.2.2.1,r14.2.2.2.2.2.1,r14.2.2.2.2.2.2.1,r14.2.2.2.2.2.2.2)).bind fun r15 =>
 bif (fits ((List.length r15.2.2.2.1)+(List.length ((x.2.1.2.1,(0:Int),(0:Int),false) :: ([]:List T17))))) then
 (Z24 ((((List.length x.2.2.2.2.1):Nat):Int),(0:Int),r15.2.1,r15.2.2.1,(r15.2.2.2.1++((x.2.1.2.1,(0:Int),(0:Int),false) :: ([]:List T17))),r15.2.2.2.2.1,r15.2.2.2.2.2.1,r15.2.2.2.2.2.2.1,r15.2.2.2.2.2.2.2)).bind fun r16 =>
 (Z22 (x.1.1,r16.1,r16.2.1,r16.2.2.1,r16.2.2.2.1,r16.2.2.2.2.1,r16.2.2.2.2.2.1,r16.2.2.2.2.2.2)).bind fun r17 =>
 some (r17.1,r17.2.1,r17.2.2.1,r17.2.2.2.1,r17.2.2.2.2.1,r17.2.2.2.2.2.1,r17.2.2.2.2.2.2)
 else
 none
abbrev Zzs:=Spec.shp Zp6 Zuh Z1u
def Zf7:Ctx:={ tb:=mkTb T2.tbl,fx:=[(40,[],Z10f),(41,[],Zzx),(120,[],Zzw)],sum:=[],nt:=50,pin:=1,nr:=true,ys:=[] }
theorem Z1v:Sound Tryz.prog 73 (Zzs) :=
 Sound.shp (C:=Zf7) (fn:=Tryz.f73) (by kernel_rfl) (c:=bodyOf Tryz.f73) (by kernel_rfl) (by decide) (ctxOK mixed tbl_ok rfl ⟨Z36,Z25,Z23,trivial⟩ trivial) (SumOK.of trivial) (by kernel_rfl) Zp6 Zuh rfl (by decide) (by decide) rfl (by decide) rfl Z1u (fun x=>by kernel_rfl)
abbrev Zpk:Shape:={ sl:=sl_26,bl:=bl_2,ts:=ts_14,pin:=0 }
abbrev Zuv:Shape:={ sl:=[],bl:=bl_2,ts:=ts_11,pin:=1 }
def Z2m (x:T60):Option T57 :=
 (Z35 (x.1.1,(16:Int),x.2.1.2.1,(0:Int),(Int.negSucc 0),x.2.2.1,x.2.2.2.1,x.2.2.2.2.1,x.2.2.2.2.2.1,x.2.2.2.2.2.2.1,x.2.2.2.2.2.2.2.1,x.2.2.2.2.2.2.2.2)).bind fun r14 =>
 (Z22 (x.1.1,r14.2.1,r14.2.2.1,r14.2.2.2.1,r14.2.2.2.2.1,r14.2.2.2.2.2.1,r14.2.2.2.2.2.2.1,r14.2.2.2.2.2.2.2)).bind fun r15 =>
 some (r15.1,r15.2.1,r15.2.2.1,r15.2.2.2.1,r15.2.2.2.2.1,r15.2.2.2.2.2.1,r15.2.2.2.2.2.2)
abbrev Z106:=Spec.shp Zpk Zuv Z2m
def Zfn:Ctx:={ tb:=mkTb T2.tbl,fx:=[(40,[],Z10f),(120,[],Zzw)],sum:=[],nt:=16,pin:=1,nr:=true,ys:=[] }
theorem Z2n:Sound Tryz.prog 74 (Z106) :=
 Sound.shp (C:=Zfn) (fn:=Tryz.f74) (by kernel_rfl) (c:=bodyOf Tryz.f74) (by kernel_rfl) (by decide) (ctxOK mixed tbl_ok rfl ⟨Z36,Z23,trivial⟩ trivial) (SumOK.of trivial) (by kernel_rfl) Zpk Zuv rfl (by decide) (by decide) rfl (by decide) rfl Z2m (fun x=>by kernel_rfl)
abbrev Zpw:Shape:={ sl:=sl_26,bl:=bl_2,ts:=ts_14,pin:=0 }
abbrev Zv7:Shape:={ sl:=[],bl:=bl_2,ts:=ts_11,pin:=1 }
def Z3b (x:T60):Option T57 :=
 (Z35 (x.1.1,(17:Int),x.2.1.2.1,(0:Int),(Int.negSucc 0),x.2.2.1,x.2.2.2.1,x.2.2.2.2.1,x.2.2.2.2.2.1,x.2.2.2.2.2.2.1,x.2.2.2.2.2.2.2.1,x.2.2.2.2.2.2.2.2)).bind fun r14 =>
 (Z22 (x.1.1,r14.2.1,r14.2.2.1,r14.2.2.2.1,r14.2.2.2.2.1,r14.2.2.2.2.2.1,r14.2.2.2.2.2.2.1,r14.2.2.2.2.2.2.2)).bind fun r15 =>
 some (r15.1,r15.2.1,r15.2.2.1,r15.2.2.2.1,r15.2.2.2.2.1,r15.2.2.2.2.2.1,r15.2.2.2.2.2.2)
abbrev Z10i:=Spec.shp Zpw Zv7 Z3b
def Zg1:Ctx:={ tb:=mkTb T2.tbl,fx:=[(40,[],Z10f),(120,[],Zzw)],sum:=[],nt:=16,pin:=1,nr:=true,ys:=[] }
theorem Z3c:Sound Tryz.prog 75 (Z10i) :=
 Sound.shp (C:=Zg1) (fn:=Tryz.f75) (by kernel_rfl) (c:=bodyOf Tryz.f75) (by kernel_rfl) (by decide) (ctxOK mixed tbl_ok rfl ⟨Z36,Z23,trivial⟩ trivial) (SumOK.of trivial) (by kernel_rfl) Zpw Zv7 rfl (by decide) (by decide) rfl (by decide) rfl Z3b (fun x=>by kernel_rfl)
abbrev Zpd:Shape:={ sl:=sl_26,bl:=bl_2,ts:=ts_14,pin:=0 }
abbrev Zuo:Shape:={ sl:=[],bl:=bl_2,ts:=ts_11,pin:=1 }
def Z28 (x:T60):Option T57 :=
 (Z24 (x.1.1,x.2.1.2.1,x.2.2.1,x.2.2.2.1,x.2.2.2.2.1,x.2.2.2.2.2.1,x.2.2.2.2.2.2.1,x.2.2.2.2.2.2.2.1,x.2.2.2.2.2.2.2.2)).bind fun r14 =>
 some (r14.1,r14.2.1,r14.2.2.1,r14.2.2.2.1,r14.2.2.2.2.1,r14.2.2.2.2.2.1,r14.2.2.2.2.2.2)
abbrev Zzz:=Spec.shp Zpd Zuo Z28
def Zfg:Ctx:={ tb:=mkTb T2.tbl,fx:=[(41,[],Zzx)],sum:=[],nt:=12,pin:=1,nr:=true,ys:=[] }
theorem Z29:Sound Tryz.prog 76 (Zzz) :=
 Sound.shp (C:=Zfg) (fn:=Tryz.f76) (by kernel_rfl) (c:=bodyOf Tryz.f76) (by kernel_rfl) (by decide) (ctxOK mixed tbl_ok rfl ⟨Z25,trivial⟩ trivial) (SumOK.of trivial) (by kernel_rfl) Zpd Zuo rfl (by decide) (by decide) rfl (by decide) rfl Z28 (fun x=>by kernel_rfl)
abbrev Zpi:Shape:={ sl:=sl_26,bl:=bl_2,ts:=ts_14,pin:=0 }
abbrev Zut:Shape:={ sl:=[],bl:=bl_2,ts:=ts_11,pin:=1 }
def Z2i (x:T60):Option T57 :=
 bif (inb x.1.1 (List.length x.2.2.2.2.1)) then
 bif (getAt ((0:Int),(0:Int),(0:Int),false) x.2.2.2.2.1 (toN x.1.1)).2.2.2 then
 (Z28 (x.1,x.2.1,x.2.2.1,x.2.2.2.1,x.2.2.2.2.1,x.2.2.2.2.2.1,x.2.2.2.2.2.2.1,x.2.2.2.2.2.2.2.1,x.2.2.2.2.2.2.2.2)).bind fun r14 =>
 some (r14.1,r14.2.1,r14.2.2.1,r14.2.2.2.1,r14.2.2.2.2.1,r14.2.2.2.2.2.1,r14.2.2.2.2.2.2)
 else
 (Z22 (x.1.1,x.2.2.1,x.2.2.2.1,x.2.2.2.2.1,x.2.2.2.2.2.1,x.2.2.2.2.2.2.1,x.2.2.2.2.2.2.2.1,x.2.2.2.2.2.2.2.2)).bind fun r14 =>
 some (r14.1,r14.2.1,r14.2.2.1,r14.2.2.2.1,r14.2.2.2.2.1,r14.2.2.2.2.2.1,r14.2.2.2.2.2.2)
 else
 none
abbrev Z104:=Spec.shp Zpi Zut Z2i
def Zfl:Ctx:={ tb:=mkTb T2.tbl,fx:=[(76,[],Zzz),(120,[],Zzw)],sum:=[],nt:=24,pin:=1,nr:=true,ys:=[] }
theorem Z2j:Sound Tryz.prog 77 (Z104) :=
 Sound.shp (C:=Zfl) (fn:=Tryz.f77) (by kernel_rfl) (c:=bodyOf Tryz.f77) (by kernel_rfl) (by decide) (ctxOK mixed tbl_ok rfl ⟨Z29,Z23,trivial⟩ trivial) (SumOK.of trivial) (by kernel_rfl) Zpi Zut rfl (by decide) (by decide) rfl (by decide) rfl Z2i (fun x=>by kernel_rfl)
abbrev Zow:Shape:={ sl:=[(0,(.hole y45)),(1,(.hole y4))],bl:=[],ts:=[y45,y4],pin:=0 }
abbrev Zu7:Shape:={ sl:=[(0,(.hole y45)),(1,(.hole y27)),(2,(.hole (.int .i64)))],bl:=[],ts:=[y45,y27,(.int .i64)],pin:=0 }
def Z1a (x:((T47 × T61) × (Int × Int))):Option ((T47 × T61) × List (T20) × Int) :=
 (Z16 x.1).bind fun r6 =>
 (Z9l (r6,x.2)).bind fun r7 =>
 bif (Bool.not r7) then
 some (((([]:List Int),(0:Int),(0:Int),(0:Int),([]:List T21),([]:List (List T7))),([]:List T17),([]:List (Int × T41)),([]:List T22),([]:List (Int × T14)),(0:Int),(0:Int)),([]:List T20),(4:Int))
 else
 (Z8x x.1.2.1).bind fun r8 =>
 (Z8t x.1.2.2.1).bind fun r9 =>
 (Z8z x.1.2.2.2.1).bind fun r10 =>
 (Z91 x.1.2.2.2.2.1).bind fun r11 =>
 (Z26 (x.2.1,x.1.1,x.1.2.2.2.2.2,r8,r9,r10,r11,([]:List T20))).bind fun r12 =>
 bif (r12.1.1 == (((0:Nat):Nat):Int)) then
 (Z2e (x.2,r12.1,r12.2.1,r12.2.2.1,r12.2.2.2.1,r12.2.2.2.2.1,r12.2.2.2.2.2.1,r12.2.2.2.2.2.2.1,r12.2.2.2.2.2.2.2)).bind fun r13 =>
 (Z2u (r13.1,r13.2.1,r13.2.2.1,r13.2.2.2.1,r13.2.2.2.2.1,r13.2.2.2.2.2.1,r13.2.2.2.2.2.2)).bind fun r14 =>
 some ((r14.1,r14.2.2.1,r14.2.2.2.1,r14.2.2.2.2.1,r14.2.2.2.2.2.1,r14.2.1),r14.2.2.2.2.2.2,(0:Int))
 else
 bif (r12.1.1 == ((((0:Nat)+(1:Nat)):Nat):Int)) then
 (Z2s (x.2,r12.1,r12.2.1,r12.2.2.1,r12.2.2.2.1,r12.2.2.2.2.1,r12.2.2.2.2.2.1,r12.2.2.2.2.2.2.1,r12.2.2.2.2.2.2.2)).bind fun r13 =>
 (Z2u (r13.1,r13.2.1,r13.2.2.1,r13.2.2.2.1,r13.2.2.2.2.1,r13.2.2.2.2.2.1,r13.2.2.2.2.2.2)).bind fun r14 =>
 some ((r14.1,r14.2.2.1,r14.2.2.2.1,r14.2.2.2.2.1,r14.2.2.2.2.2.1,r14.2.1),r14.2.2.2.2.2.2,(0:Int))
 else
 bif (r12.1.1 == (((((0:Nat)+(1:Nat))+(1:Nat)):Nat):Int)) then
 (Z2o (x.2,r12.1,r12.2.1,r12.2.2.1,r12.2.2.2.1,r12.2.2.2.2.1,r12.2.2.2.2.2.1,r12.2.2.2.2.2.2.1,r12.2.2.2.2.2.2.2)).bind fun r13 =>
 (Z2u (r13.1,r13.2.1,r13.2.2.1,r13.2.2.2.1,r13.2.2.2.2.1,r13.2.2.2.2.2.1,r13.2.2.2.2.2.2)).bind fun r14 =>
 some ((r14.1,r14.2.2.1,r14.2.2.2.1,r14.2.2.2.2.1,r14.2.2.2.2.2.1,r14.2.1),r14.2.2.2.2.2.2,(0:Int))
 else
 bif (r12.1.1 == ((((((0:Nat)+(1:Nat))+(1:Nat))+(1:Nat)):Nat):Int)) then
 (Z31 (x.2,r12.1,r12.2.1,r12.2.2.1,r12.2.2.2.1,r12.2.2.2.2.1,r12.2.2.2.2.2.1,r12.2.2.2.2.2.2.1,r12.2.2.2.2.2.2.2)).bind fun r13 =>
 (Z2u (r13.1,r13.2.1,r13.2.2.1,r13.2.2.2.1,r13.2.2.2.2.1,r13.2.2.2.2.2.1,r13.2.2.2.2.2.2)).bind fun r14 =>
 some ((r14.1,r14.2.2.1,r14.2.2.2.1,r14.2.2.2.2.1,r14.2.2.2.2.2.1,r14.2.1),r14.2.2.2.2.2.2,(0:Int))
 else
 bif (r12.1.1 == (((((((0:Nat)+(1:Nat))+(1:Nat))+(1:Nat))+(1:Nat)):Nat):Int)) then
 (Z2q (x.2,r12.1,r12.2.1,r12.2.2.1,r12.2.2.2.1,r12.2.2.2.2.1,r12.2.2.2.2.2.1,r12.2.2.2.2.2.2.1,r12.2.2.2.2.2.2.2)).bind fun r13 =>
 (Z2u (r13.1,r13.2.1,r13.2.2.1,r13.2.2.2.1,r13.2.2.2.2.1,r13.2.2.2.2.2.1,r13.2.2.2.2.2.2)).bind fun r14 =>
 some ((r14.1,r14.2.2.1,r14.2.2.2.1,r14.2.2.2.2.1,r14.2.2.2.2.2.1,r14.2.1),r14.2.2.2.2.2.2,(0:Int))
 else
 bif (r12.1.1 == ((((((((0:Nat)+(1:Nat))+(1:Nat))+(1:Nat))+(1:Nat))+(1:Nat)):Nat):Int)) then
 (Z2a (x.2,r12.1,r12.2.1,r12.2.2.1,r12.2.2.2.1,r12.2.2.2.2.1,r12.2.2.2.2.2.1,r12.2.2.2.2.2.2.1,r12.2.2.2.2.2.2.2)).bind fun r13 =>
 (Z2u (r13.1,r13.2.1,r13.2.2.1,r13.2.2.2.1,r13.2.2.2.2.1,r13.2.2.2.2.2.1,r13.2.2.2.2.2.2)).bind fun r14 =>
 some ((r14.1,r14.2.2.1,r14.2.2.2.1,r14.2.2.2.2.1,r14.2.2.2.2.2.1,r14.2.1),r14.2.2.2.2.2.2,(0:Int))
 else
 bif (r12.1.1 == (((((((((0:Nat)+(1:Nat))+(1:Nat))+(1:Nat))+(1:Nat))+(1:Nat))+(1:Nat)):Nat):Int)) then
 (Z37 (x.2,r12.1,r12.2.1,r12.2.2.1,r12.2.2.2.1,r12.2.2.2.2.1,r12.2.2.2.2.2.1,r12.2.2.2.2.2.2.1,r12.2.2.2.2.2.2.2)).bind fun r13 =>
 (Z2u (r13.1,r13.2.1,r13.2.2.1,r13.2.2.2.1,r13.2.2.2.2.1,r13.2.2.2.2.2.1,r13.2.2.2.2.2.2)).bind fun r14 =>
 some ((r14.1,r14.2.2.1,r14.2.2.2.1,r14.2.2.2.2.1,r14.2.2.2.2.2.1,r14.2.1),r14.2.2.2.2.2.2,(0:Int))
 else
 bif (r12.1.1 == ((((((((((0:Nat)+(1:Nat))+(1:Nat))+(1:Nat))+(1:Nat))+(1:Nat))+(1:Nat))+(1:Nat)):Nat):Int)) then
 (Z1w (x.2,r12.1,r12.2.1,r12.2.2.1,r12.2.2.2.1,r12.2.2.2.2.1,r12.2.2.2.2.2.1,r12.2.2.2.2.2.2.1,r12.2.2.2.2.2.2.2)).bind fun r13 =>
 (Z2u (r13.1,r13.2.1,r13.2.2.1,r13.2.2.2.1,r13.2.2.2.2.1,r13.2.2.2.2.2.1,r13.2.2.2.2.2.2)).bind fun r14 =>
 some ((r14.1,r14.2.2.1,r14.2.2.2.1,r14.2.2.2.2.1,r14.2.2.2.2.2.1,r14.2.1),r14.2.2.2.2.2.2,(0:Int))
 else
 bif (r12.1.1 == (((((((((((0:Nat)+(1:Nat))+(1:Nat))+(1:Nat))+(1:Nat))+(1:Nat))+(1:Nat))+(1:Nat))+(1:Nat)):Nat):Int)) then
 (Z20 (x.2,r12.1,r12.2.1,r12.2.2.1,r12.2.2.2.1,r12.2.2.2.2.1,r12.2.2.2.2.2.1,r12.2.2.2.2.2.2.1,r12.2.2.2.2.2.2.2)).bind fun r13 =>
 (Z2u (r13.1,r13.2.1,r13.2.2.1,r13.2.2.2.1,r13.2.2.2.2.1,r13.2.2.2.2.2.1,r13.2.2.2.2.2.2)).bind fun r14 =>
 some ((r14.1,r14.2.2.1,r14.2.2.2.1,r14.2.2.2.2.1,r14.2.2.2.2.2.1,r14.2.1),r14.2.2.2.2.2.2,(0:Int))
 else
 bif (r12.1.1 == ((((((((((((0:Nat)+(1:Nat))+(1:Nat))+(1:Nat))+(1:Nat))+(1:Nat))+(1:Nat))+(1:Nat))+(1:Nat))+(1:Nat)):Nat):Int)) then
 (Z1u (x.2,r12.1,r12.2.1,r12.2.2.1,r12.2.2.2.1,r12.2.2.2.2.1,r12.2.2.2.2.2.1,r12.2.2.2.2.2.2.1,r12.2.2.2.2.2.2.2)).bind fun r13 =>
 (Z2u (r13.1,r13.2.1,r13.2.2.1,r13.2.2.2.1,r13.2.2.2.2.1,r13.2.2.2.2.2.1,r13.2.2.2.2.2.2)).bind fun r14 =>
 some ((r14.1,r14.2.2.1,r14.2.2.2.1,r14.2.2.2.2.1,r14.2.2.2.2.2.1,r14.2.1),r14.2.2.2.2.2.2,(0:Int))
 else
 bif (r12.1.1 == (((((((((((((0:Nat)+(1:Nat))+(1:Nat))+(1:Nat))+(1:Nat))+(1:Nat))+(1:Nat))+(1:Nat))+(1:Nat))+(1:Nat))+(1:Nat)):Nat):Int)) then
 (Z2m (x.2,r12.1,r12.2.1,r12.2.2.1,r12.2.2.2.1,r12.2.2.2.2.1,r12.2.2.2.2.2.1,r12.2.2.2.2.2.2.1,r12.2.2.2.2.2.2.2)).bind fun r13 =>
 (Z2u (r13.1,r13.2.1,r13.2.2.1,r13.2.2.2.1,r13.2.2.2.2.1,r13.2.2.2.2.2.1,r13.2.2.2.2.2.2)).bind fun r14 =>
 some ((r14.1,r14.2.2.1,r14.2.2.2.1,r14.2.2.2.2.1,r14.2.2.2.2.2.1,r14.2.1),r14.2.2.2.2.2.2,(0:Int))
 else
 bif (r12.1.1 == ((((((((((((((0:Nat)+(1:Nat))+(1:Nat))+(1:Nat))+(1:Nat))+(1:Nat))+(1:Nat))+(1:Nat))+(1:Nat))+(1:Nat))+(1:Nat))+(1:Nat)):Nat):Int)) then
 (Z3b (x.2,r12.1,r12.2.1,r12.2.2.1,r12.2.2.2.1,r12.2.2.2.2.1,r12.2.2.2.2.2.1,r12.2.2.2.2.2.2.1,r12.2.2.2.2.2.2.2)).bind fun r13 =>
 (Z2u (r13.1,r13.2.1,r13.2.2.1,r13.2.2.2.1,r13.2.2.2.2.1,r13.2.2.2.2.2.1,r13.2.2.2.2.2.2)).bind fun r14 =>
 some ((r14.1,r14.2.2.1,r14.2.2.2.1,r14.2.2.2.2.1,r14.2.2.2.2.2.1,r14.2.1),r14.2.2.2.2.2.2,(0:Int))
 else
 bif (r12.1.1 == (((((((((((((((0:Nat)+(1:Nat))+(1:Nat))+(1:Nat))+(1:Nat))+(1:Nat))+(1:Nat))+(1:Nat))+(1:Nat))+(1:Nat))+(1:Nat))+(1:Nat))+(1:Nat)):Nat):Int)) then
 (Z28 (x.2,r12.1,r12.2.1,r12.2.2.1,r12.2.2.2.1,r12.2.2.2.2.1,r12.2.2.2.2.2.1,r12.2.2.2.2.2.2.1,r12.2.2.2.2.2.2.2)).bind fun r13 =>
 (Z2u (r13.1,r13.2.1,r13.2.2.1,r13.2.2.2.1,r13.2.2.2.2.1,r13.2.2.2.2.2.1,r13.2.2.2.2.2.2)).bind fun r14 =>
 some ((r14.1,r14.2.2.1,r14.2.2.2.1,r14.2.2.2.2.1,r14.2.2.2.2.2.1,r14.2.1),r14.2.2.2.2.2.2,(0:Int))
 else
 bif (r12.1.1 == ((((((((((((((((0:Nat)+(1:Nat))+(1:Nat))+(1:Nat))+(1:Nat))+(1:Nat))+(1:Nat))+(1:Nat))+(1:Nat))+(1:Nat))+(1:Nat))+(1:Nat))+(1:Nat))+(1:Nat)):Nat):Int)) then
 (Z2i (x.2,r12.1,r12.2.1,r12.2.2.1,r12.2.2.2.1,r12.2.2.2.2.1,r12.2.2.2.2.2.1,r12.2.2.2.2.2.2.1,r12.2.2.2.2.2.2.2)).bind fun r13 =>
 (Z2u (r13.1,r13.2.1,r13.2.2.1,r13.2.2.2.1,r13.2.2.2.2.1,r13.2.2.2.2.2.1,r13.2.2.2.2.2.2)).bind fun r14 =>
 some ((r14.1,r14.2.2.1,r14.2.2.2.1,r14.2.2.2.2.1,r14.2.2.2.2.2.1,r14.2.1),r14.2.2.2.2.2.2,(0:Int))
 else
 none
abbrev Zzi:=Spec.shp Zow Zu7 Z1a
def Zet:Ctx:={ tb:=mkTb T2.tbl,fx:=[(22,[],Zzg),(59,[],Z13l),(60,[],Z139),(61,[],Z137),(62,[],Z13a),(63,[],Z13b),(78,[],Zzy),(64,[],Z102),(42,[],Z10a),(65,[],Z109),(66,[],Z107),(67,[],Z10d),(68,[],Z108),(69,[],Z100),(70,[],Z10g),(71,[],Zzt),(72,[],Zzv),(73,[],Zzs),(74,[],Z106),(75,[],Z10i),(76,[],Zzz),(77,[],Z104)],sum:=[],nt:=70,pin:=0,nr:=true,ys:=[] }
theorem Z1b:Sound Tryz.prog 23 (Zzi) :=
 Sound.shp (C:=Zet) (fn:=Tryz.f23) (by kernel_rfl) (c:=bodyOf Tryz.f23) (by kernel_rfl) (by decide) (ctxOK mixed tbl_ok rfl ⟨Z17,Z9m,Z8y,Z8u,Z90,Z92,Z27,Z2f,Z30,Z2t,Z2p,Z32,Z2r,Z2b,Z38,Z1x,Z21,Z1v,Z2n,Z3c,Z29,Z2j,trivial⟩ trivial) (SumOK.of trivial) (by kernel_rfl) Zow Zu7 rfl (by decide) (by decide) rfl (by decide) rfl Z1a (fun x=>by kernel_rfl)
def Zbg (x:T55):Option (T55 ⊕ (T47 × Int × Int × Int × List (T12))) :=
 bif (decide (x.2.2.1 < x.2.1)) then
 bif (inb x.2.2.1 (List.length x.1)) then
 bif (sub3 (0:Int) (Min.min (((List.length (getAt (([]:List T0),false) x.1 (toN x.2.2.1)).1):Nat):Int) (6:Int)) (List.length (getAt (([]:List T0),false) x.1 (toN x.2.2.1)).1)) then
 bif (fits ((List.length x.2.2.2.2.2.2.2)+(List.length (((cut (getAt (([]:List T0),false) x.1 (toN x.2.2.1)).1 (toN (0:Int)) ((toN (Min.min (((List.length (getAt (([]:List T0),false) x.1 (toN x.2.2.1)).1):Nat):Int) (6:Int))) - (toN (0:Int)))),(getAt (([]:List T0),false) x.1 (toN x.2.2.1)).2) :: ([]:List T21))))) then
 some (.inl (x.1,x.2.1,(IntKind.wrap .i64 (x.2.2.1+(1:Int))),x.2.2.2.1,x.2.2.2.2.1,x.2.2.2.2.2.1,x.2.2.2.2.2.2.1,(x.2.2.2.2.2.2.2++(((cut (getAt (([]:List T0),false) x.1 (toN x.2.2.1)).1 (toN (0:Int)) ((toN (Min.min (((List.length (getAt (([]:List T0),false) x.1 (toN x.2.2.1)).1):Nat):Int) (6:Int))) - (toN (0:Int)))),(getAt (([]:List T0),false) x.1 (toN x.2.2.1)).2) :: ([]:List T21)))))
 else
 none
 else
 none
 else
 none
 else
 some (.inr (x.2.2.2.1,x.2.2.2.2.1,x.2.2.2.2.2.1,x.2.2.2.2.2.2.1,x.2.2.2.2.2.2.2))
def Zbf (x:T59):Option (T59 ⊕ (T47 × Int × Int × Int × List (T12) × List (List (T7)))) :=
 bif (decide (x.2.2.1 < x.2.1)) then
 bif (inb x.2.2.1 (List.length x.1)) then
 bif (sub3 (0:Int) (Min.min (((List.length (getAt ([]:List T7) x.1 (toN x.2.2.1))):Nat):Int) (30:Int)) (List.length (getAt ([]:List T7) x.1 (toN x.2.2.1)))) then
 bif (fits ((List.length x.2.2.2.2.2.2.2.2)+(List.length ((cut (getAt ([]:List T7) x.1 (toN x.2.2.1)) (toN (0:Int)) ((toN (Min.min (((List.length (getAt ([]:List T7) x.1 (toN x.2.2.1))):Nat):Int) (30:Int))) - (toN (0:Int)))) :: ([]:List (List T7)))))) then
 some (.inl (x.1,x.2.1,(IntKind.wrap .i64 (x.2.2.1+(1:Int))),x.2.2.2.1,x.2.2.2.2.1,x.2.2.2.2.2.1,x.2.2.2.2.2.2.1,x.2.2.2.2.2.2.2.1,(x.2.2.2.2.2.2.2.2++((cut (getAt ([]:List T7) x.1 (toN x.2.2.1)) (toN (0:Int)) ((toN (Min.min (((List.length (getAt ([]:List T7) x.1 (toN x.2.2.1))):Nat):Int) (30:Int))) - (toN (0:Int)))) :: ([]:List (List T7))))))
 else
 none
 else
 none
 else
 none
 else
 some (.inr (x.2.2.2.1,x.2.2.2.2.1,x.2.2.2.2.2.1,x.2.2.2.2.2.2.1,x.2.2.2.2.2.2.2.1,x.2.2.2.2.2.2.2.2))
def Z3r (x:(T47)):Option (T47) :=
 bif (sub3 (0:Int) (Min.min (((List.length x.1):Nat):Int) (6:Int)) (List.length x.1)) then
 bif (sub3 (0:Int) (Min.min (((List.length x.2.2.2.2.1):Nat):Int) (6:Int)) (List.length x.2.2.2.2.1)) then
 (loop Zbg ((cut x.2.2.2.2.1 (toN (0:Int)) ((toN (Min.min (((List.length x.2.2.2.2.1):Nat):Int) (6:Int))) - (toN (0:Int)))),(((List.length (cut x.2.2.2.2.1 (toN (0:Int)) ((toN (Min.min (((List.length x.2.2.2.2.1):Nat):Int) (6:Int))) - (toN (0:Int))))):Nat):Int),(0:Int),((cut x.1 (toN (0:Int)) ((toN (Min.min (((List.length x.1):Nat):Int) (6:Int))) - (toN (0:Int)))),x.2),(0:Int),(0:Int),(0:Int),([]:List T21))).bind fun r2 =>
 bif (sub3 (0:Int) (Min.min (((List.length r2.1.2.2.2.2.2):Nat):Int) (8:Int)) (List.length r2.1.2.2.2.2.2)) then
 (loop Zbf ((cut r2.1.2.2.2.2.2 (toN (0:Int)) ((toN (Min.min (((List.length r2.1.2.2.2.2.2):Nat):Int) (8:Int))) - (toN (0:Int)))),(((List.length (cut r2.1.2.2.2.2.2 (toN (0:Int)) ((toN (Min.min (((List.length r2.1.2.2.2.2.2):Nat):Int) (8:Int))) - (toN (0:Int))))):Nat):Int),(0:Int),r2.1,r2.2.1,r2.2.2.1,r2.2.2.2.1,r2.2.2.2.2,([]:List (List T7)))).bind fun r3 =>
 some (r3.1.1,r3.1.2.1,r3.1.2.2.1,r3.1.2.2.2.1,r3.2.2.2.2.1,r3.2.2.2.2.2)
 else
 none
 else
 none
 else
 none
abbrev Zqf:Shape:={ sl:=sl_6,bl:=[],ts:=[y39],pin:=0 }
abbrev Zvq:Shape:={ sl:=sl_1,bl:=[],ts:=ts_1,pin:=0 }
def Z4f (x:(T47)):Option (Bool) :=
 bif (decide ((((List.length x.1):Nat):Int) > (4:Int))) then
 some true
 else
 bif (decide (x.2.1 < (0:Int))) then
 some true
 else
 bif (decide (x.2.1 > (2:Int))) then
 some true
 else
 bif (decide (x.2.2.1 < (0:Int))) then
 some true
 else
 bif (decide (x.2.2.1 > (2:Int))) then
 some true
 else
 bif (decide (x.2.2.2.1 < (0:Int))) then
 some true
 else
 bif (decide (x.2.2.2.1 > (4:Int))) then
 some true
 else
 bif (decide ((((List.length x.2.2.2.2.1):Nat):Int) > (4:Int))) then
 some true
 else
 bif (decide ((((List.length x.2.2.2.2.2):Nat):Int) < (1:Int))) then
 some true
 else
 some (decide ((((List.length x.2.2.2.2.2):Nat):Int) > (6:Int)))
abbrev Z111:=Spec.shp Zqf Zvq Z4f
def Zgt:Ctx:={ tb:=mkTb T2.tbl,fx:=[],sum:=[],nt:=55,pin:=0,nr:=true,ys:=[] }
theorem Z4g:Sound Tryz.prog 157 (Z111) :=
 Sound.shp (C:=Zgt) (fn:=Tryz.f157) (by kernel_rfl) (c:=bodyOf Tryz.f157) (by kernel_rfl) (by decide) (ctxOK mixed tbl_ok rfl trivial trivial) (SumOK.of trivial) (by kernel_rfl) Zqf Zvq rfl (by decide) (by decide) rfl (by decide) rfl Z4f (fun x=>by kernel_rfl)
abbrev Zn9:Shape:={ sl:=[(1,(.ptr 0 [])),(13,(.hole y0)),(14,(.hole (.int .i64))),(15,(.hole (.int .i64)))],bl:=bl_0,ts:=[y0,(.int .i64),(.int .i64),y39],pin:=0 }
abbrev Zln:List (ETag × Shape):=[(.ret,{ sl:=sl_5,bl:=[],ts:=ts_5,pin:=0 }),(.exit 0,{ sl:=[(1,(.ptr 0 []))],bl:=bl_0,ts:=[y39],pin:=0 })]
def Zc2 (x:(List Int × Int × Int × T47)):Option ((List Int × Int × Int × T47) ⊕ ((Int × Int) ⊕ (T47))) :=
 bif (decide (x.2.2.1 < x.2.1)) then
 bif (inb x.2.2.1 (List.length x.1)) then
 bif (decide ((getAt (0:Int) x.1 (toN x.2.2.1)) < (Int.negSucc 0))) then
 some (.inr (.inl ((Int.negSucc 0),(3:Int))))
 else
 bif (decide ((getAt (0:Int) x.1 (toN x.2.2.1)) > (3:Int))) then
 some (.inr (.inl ((Int.negSucc 0),(3:Int))))
 else
 some (.inl (x.1,x.2.1,(IntKind.wrap .i64 (x.2.2.1+(1:Int))),x.2.2.2))
 else
 none
 else
 some (.inr (.inr x.2.2.2))
def Zgx:Ctx:={ tb:=mkTb T2.tbl,fx:=[(157,[],Z111)],sum:=[],nt:=60,pin:=0,nr:=true,ys:=[] }
theorem Zc3:CSound Tryz.prog ⟨60,0,true⟩ (.loop (loopOf 5 Tryz.f97)) (Yay Zn9 Zln (loop Zc2)) :=
 Y8c (C:=Zgx) (ctxOK mixed tbl_ok rfl ⟨Z4g,trivial⟩ trivial) (SumOK.of trivial) Zn9 Zln rfl rfl Zc2 (fun x=>by kernel_rfl)
abbrev Zn8:Shape:={ sl:=[(1,(.ptr 0 [])),(6,(.hole (.int .i64))),(27,(.hole (.slice y9))),(28,(.hole (.int .i64))),(29,(.hole (.int .i64))),(40,(.hole (.slice y2))),(41,(.hole (.int .i64))),(42,(.hole (.int .i64)))],bl:=bl_0,ts:=[(.int .i64),(.slice y9),(.int .i64),(.int .i64),(.slice y2),(.int .i64),(.int .i64),y39],pin:=0 }
abbrev Zlm:List (ETag × Shape):=[(.ret,{ sl:=sl_5,bl:=[],ts:=ts_5,pin:=0 }),(.exit 4,{ sl:=sl_34,bl:=bl_0,ts:=ts_4,pin:=0 })]
def Zc0 (x:(Int × List (T12) × Int × Int × List T0 × Int × Int × T47)):Option ((Int × List (T12) × Int × Int × List T0 × Int × Int × T47) ⊕ ((Int × Int) ⊕ T53)) :=
 bif (decide (x.2.2.2.2.2.2.1 < x.2.2.2.2.2.1)) then
 bif (inb x.2.2.2.2.2.2.1 (List.length x.2.2.2.2.1)) then
 bif (decide ((getAt (false,(0:Int)) x.2.2.2.2.1 (toN x.2.2.2.2.2.2.1)).2 < (0:Int))) then
 some (.inr (.inl (x.1,(3:Int))))
 else
 bif (decide ((getAt (false,(0:Int)) x.2.2.2.2.1 (toN x.2.2.2.2.2.2.1)).2 ≥ (((List.length x.2.2.2.2.2.2.2.1):Nat):Int))) then
 some (.inr (.inl (x.1,(3:Int))))
 else
 some (.inl (x.1,x.2.1,x.2.2.1,x.2.2.2.1,x.2.2.2.2.1,x.2.2.2.2.2.1,(IntKind.wrap .i64 (x.2.2.2.2.2.2.1+(1:Int))),x.2.2.2.2.2.2.2))
 else
 none
 else
 some (.inr (.inr (x.2.1,x.2.2.1,x.2.2.2.1,x.2.2.2.2.2.2.2)))
def Zgw:Ctx:={ tb:=mkTb T2.tbl,fx:=[(157,[],Z111)],sum:=[(0,5,Yay Zn9 Zln (loop Zc2))],nt:=60,pin:=0,nr:=true,ys:=[] }
theorem Zc1:CSound Tryz.prog ⟨60,0,true⟩ (.loop (loopOf 16 Tryz.f97)) (Yay Zn8 Zlm (loop Zc0)) :=
 Y8c (C:=Zgw) (ctxOK mixed tbl_ok rfl ⟨Z4g,trivial⟩ trivial) (SumOK.of ⟨(Yaz (by kernel_rfl)),trivial⟩) Zn8 Zlm rfl rfl Zc0 (fun x=>by kernel_rfl)
abbrev Zn7:Shape:={ sl:=sl_34,bl:=bl_0,ts:=ts_4,pin:=0 }
abbrev Zll:List (ETag × Shape):=[(.ret,{ sl:=sl_5,bl:=[],ts:=ts_5,pin:=0 }),(.exit 2,{ sl:=[],bl:=[],ts:=[],pin:=0 })]
def Zby (x:T53):Option (T53 ⊕ ((Int × Int) ⊕ Unit)) :=
 bif (decide (x.2.2.1 < x.2.1)) then
 bif (inb x.2.2.1 (List.length x.1)) then
 bif (decide ((((List.length (getAt (([]:List T0),false) x.1 (toN x.2.2.1)).1):Nat):Int) > (4:Int))) then
 some (.inr (.inl (x.2.2.1,(2:Int))))
 else
 (loop Zc0 (x.2.2.1,x.1,x.2.1,x.2.2.1,(getAt (([]:List T0),false) x.1 (toN x.2.2.1)).1,(((List.length (getAt (([]:List T0),false) x.1 (toN x.2.2.1)).1):Nat):Int),(0:Int),x.2.2.2)).bind fun r10 =>
 match r10 with
 | .inl y11 =>
 some (.inr (.inl (y11.1,y11.2)))
 | .inr y11 =>
 some (.inl (y11.1,y11.2.1,(IntKind.wrap .i64 (y11.2.2.1+(1:Int))),y11.2.2.2))
 else
 none
 else
 some (.inr (.inr ()))
def Zgv:Ctx:={ tb:=mkTb T2.tbl,fx:=[(157,[],Z111)],sum:=[(0,5,Yay Zn9 Zln (loop Zc2)),(0,16,Yay Zn8 Zlm (loop Zc0))],nt:=60,pin:=0,nr:=true,ys:=[] }
theorem Zbz:CSound Tryz.prog ⟨60,0,true⟩ (.loop (loopOf 11 Tryz.f97)) (Yay Zn7 Zll (loop Zby)) :=
 Y8c (C:=Zgv) (ctxOK mixed tbl_ok rfl ⟨Z4g,trivial⟩ trivial) (SumOK.of ⟨(Yaz (by kernel_rfl)),(Yb0 (d:=.loop (loopOf 16 Tryz.f97)) (by kernel_rfl) Zc1),trivial⟩) Zn7 Zll rfl rfl Zby (fun x=>by kernel_rfl)
abbrev Zqg:Shape:={ sl:=sl_6,bl:=[],ts:=[y39],pin:=0 }
abbrev Zvr:Shape:={ sl:=sl_7,bl:=[],ts:=ts_5,pin:=0 }
def Z4h (x:(T47)):Option (Int × Int) :=
 (Z4f x).bind fun r6 =>
 bif r6 then
 some ((Int.negSucc 0),(2:Int))
 else
 (loop Zc2 (x.1,(((List.length x.1):Nat):Int),(0:Int),x)).bind fun r7 =>
 match r7 with
 | .inl y8 =>
 some (y8.1,y8.2)
 | .inr y8 =>
 (loop Zby (y8.2.2.2.2.1,(((List.length y8.2.2.2.2.1):Nat):Int),(0:Int),y8)).bind fun r9 =>
 match r9 with
 | .inl y10 =>
 some (y10.1,y10.2)
 | .inr y10 =>
 some ((Int.negSucc 0),(0:Int))
abbrev Z112:=Spec.shp Zqg Zvr Z4h
def Zgu:Ctx:={ tb:=mkTb T2.tbl,fx:=[(157,[],Z111)],sum:=[(0,5,Yay Zn9 Zln (loop Zc2)),(0,16,Yay Zn8 Zlm (loop Zc0)),(0,11,Yay Zn7 Zll (loop Zby))],nt:=60,pin:=0,nr:=true,ys:=[] }
theorem Z4i:Sound Tryz.prog 97 (Z112) :=
 Sound.shp (C:=Zgu) (fn:=Tryz.f97) (by kernel_rfl) (c:=bodyOf Tryz.f97) (by kernel_rfl) (by decide) (ctxOK mixed tbl_ok rfl ⟨Z4g,trivial⟩ trivial) (SumOK.of ⟨(Yb0 (d:=.loop (loopOf 5 Tryz.f97)) (by kernel_rfl) Zc3),(Yb0 (d:=.loop (loopOf 16 Tryz.f97)) (by kernel_rfl) Zc1),(Yb0 (d:=.loop (loopOf 11 Tryz.f97)) (by kernel_rfl) Zbz),trivial⟩) (by kernel_rfl) Zqg Zvr rfl (by decide) (by decide) rfl (by decide) rfl Z4h (fun x=>by kernel_rfl)
abbrev Zqe:Shape:={ sl:=[(0,(.hole y39)),(1,(.hole (.int .i64))),(2,(.hole (.slice y5)))],bl:=[],ts:=[y39,(.int .i64),(.slice y5)],pin:=0 }
abbrev Zvp:Shape:={ sl:=sl_2,bl:=[],ts:=ts_2,pin:=0 }
def Z4d (x:(T47 × Int × List (T7))):Option (Int) :=
 bif (decide (x.2.1 ≥ (1:Int))) then
 bif (decide (x.2.1 ≤ (3:Int))) then
 some (((List.length x.1.1):Nat):Int)
 else
 bif (x.2.1 == (4:Int)) then
 some (((List.length x.1.2.2.2.2.1):Nat):Int)
 else
 bif (x.2.1 == (5:Int)) then
 some x.1.2.1
 else
 bif (x.2.1 == (6:Int)) then
 some x.1.2.1
 else
 bif (x.2.1 == (7:Int)) then
 some x.1.2.2.1
 else
 bif (x.2.1 == (8:Int)) then
 some x.1.2.2.1
 else
 bif (x.2.1 == (9:Int)) then
 some (((List.length x.1.2.2.2.2.2):Nat):Int)
 else
 bif (x.2.1 == (10:Int)) then
 some x.1.2.2.2.1
 else
 bif (x.2.1 == (11:Int)) then
 some x.1.2.2.2.1
 else
 bif (decide (x.2.1 ≥ (12:Int))) then
 some (IntKind.wrap .i64 ((((List.length x.2.2):Nat):Int)+(1:Int)))
 else
 some (1:Int)
 else
 bif (x.2.1 == (4:Int)) then
 some (((List.length x.1.2.2.2.2.1):Nat):Int)
 else
 bif (x.2.1 == (5:Int)) then
 some x.1.2.1
 else
 bif (x.2.1 == (6:Int)) then
 some x.1.2.1
 else
 bif (x.2.1 == (7:Int)) then
 some x.1.2.2.1
 else
 bif (x.2.1 == (8:Int)) then
 some x.1.2.2.1
 else
 bif (x.2.1 == (9:Int)) then
 some (((List.length x.1.2.2.2.2.2):Nat):Int)
 else
 bif (x.2.1 == (10:Int)) then
 some x.1.2.2.2.1
 else
 bif (x.2.1 == (11:Int)) then
 some x.1.2.2.2.1
 else
 bif (decide (x.2.1 ≥ (12:Int))) then
 some (IntKind.wrap .i64 ((((List.length x.2.2):Nat):Int)+(1:Int)))
 else
 some (1:Int)
abbrev Z110:=Spec.shp Zqe Zvp Z4d
def Zgs:Ctx:={ tb:=mkTb T2.tbl,fx:=[],sum:=[],nt:=55,pin:=0,nr:=true,ys:=[] }
theorem Z4e:Sound Tryz.prog 158 (Z110) :=
 Sound.shp (C:=Zgs) (fn:=Tryz.f158) (by kernel_rfl) (c:=bodyOf Tryz.f158) (by kernel_rfl) (by decide) (ctxOK mixed tbl_ok rfl trivial trivial) (SumOK.of trivial) (by kernel_rfl) Zqe Zvp rfl (by decide) (by decide) rfl (by decide) rfl Z4d (fun x=>by kernel_rfl)
abbrev Zqd:Shape:={ sl:=[(0,(.hole y39)),(1,(.hole (.slice y5))),(2,(.hole y5))],bl:=[],ts:=[y39,(.slice y5),y5],pin:=0 }
abbrev Zvo:Shape:={ sl:=sl_2,bl:=[],ts:=ts_2,pin:=0 }
def Z4b (x:(T47 × List (T7) × T7)):Option (Int) :=
 bif (decide (x.2.2.1 < (0:Int))) then
 some (11:Int)
 else
 bif (decide (x.2.2.1 > (13:Int))) then
 some (11:Int)
 else
 bif (decide (x.2.2.2.1 < (0:Int))) then
 some (3:Int)
 else
 (Z4d (x.1,x.2.2.1,x.2.1)).bind fun r9 =>
 bif (decide (x.2.2.2.1 ≥ r9)) then
 some (3:Int)
 else
 bif (decide (x.2.2.2.2 < (0:Int))) then
 some (3:Int)
 else
 bif (x.2.2.1 == (7:Int)) then
 bif (decide (x.2.2.2.2 > (((List.length x.2.1):Nat):Int))) then
 some (3:Int)
 else
 bif (x.2.2.1 != (7:Int)) then
 bif (x.2.2.2.2 != (0:Int)) then
 some (3:Int)
 else
 some (0:Int)
 else
 some (0:Int)
 else
 bif (x.2.2.1 != (7:Int)) then
 bif (x.2.2.2.2 != (0:Int)) then
 some (3:Int)
 else
 some (0:Int)
 else
 some (0:Int)
abbrev Z10z:=Spec.shp Zqd Zvo Z4b
def Zgr:Ctx:={ tb:=mkTb T2.tbl,fx:=[(158,[],Z110)],sum:=[],nt:=53,pin:=0,nr:=true,ys:=[] }
theorem Z4c:Sound Tryz.prog 98 (Z10z) :=
 Sound.shp (C:=Zgr) (fn:=Tryz.f98) (by kernel_rfl) (c:=bodyOf Tryz.f98) (by kernel_rfl) (by decide) (ctxOK mixed tbl_ok rfl ⟨Z4e,trivial⟩ trivial) (SumOK.of trivial) (by kernel_rfl) Zqd Zvo rfl (by decide) (by decide) rfl (by decide) rfl Z4b (fun x=>by kernel_rfl)
abbrev Zn5:Shape:={ sl:=sl_9,bl:=bl_0,ts:=ts_7,pin:=0 }
abbrev Zlj:List (ETag × Shape):=[(.ret,{ sl:=sl_10,bl:=[],ts:=ts_0,pin:=0 }),(.exit 2,{ sl:=sl_11,bl:=bl_0,ts:=ts_8,pin:=0 })]
def Zbu (x:T56):Option (T56 ⊕ (T4 ⊕ T54)) :=
 bif (decide (x.2.2.2.2.2.2.2.1 < x.2.2.2.2.2.2.1)) then
 bif (inb x.2.2.2.2.2.2.2.1 (List.length x.2.2.2.2.2.1)) then
 (Z4b (x.2.2.2.2.2.2.2.2,x.2.1,(getAt ((0:Int),(0:Int),(0:Int)) x.2.2.2.2.2.1 (toN x.2.2.2.2.2.2.2.1)))).bind fun r8 =>
 bif (r8 != (0:Int)) then
 some (.inr (.inl (x.1,x.2.2.2.2.2.2.2.1,r8)))
 else
 some (.inl (x.1,x.2.1,x.2.2.1,x.2.2.2.1,x.2.2.2.2.1,x.2.2.2.2.2.1,x.2.2.2.2.2.2.1,(IntKind.wrap .i64 (x.2.2.2.2.2.2.2.1+(1:Int))),x.2.2.2.2.2.2.2.2))
 else
 none
 else
 some (.inr (.inr (x.2.2.1,x.2.2.2.1,x.2.2.2.2.1,x.2.2.2.2.2.2.2.2)))
def Zgp:Ctx:={ tb:=mkTb T2.tbl,fx:=[(97,[],Z112),(98,[],Z10z)],sum:=[],nt:=51,pin:=0,nr:=true,ys:=[] }
theorem Zbv:CSound Tryz.prog ⟨51,0,true⟩ (.loop (loopOf 11 Tryz.f43)) (Yay Zn5 Zlj (loop Zbu)) :=
 Y8c (C:=Zgp) (ctxOK mixed tbl_ok rfl ⟨Z4i,Z4c,trivial⟩ trivial) (SumOK.of trivial) Zn5 Zlj rfl rfl Zbu (fun x=>by kernel_rfl)
abbrev Zn6:Shape:={ sl:=sl_11,bl:=bl_0,ts:=ts_8,pin:=0 }
abbrev Zlk:List (ETag × Shape):=[(.ret,{ sl:=sl_10,bl:=[],ts:=ts_0,pin:=0 }),(.exit 0,{ sl:=[],bl:=[],ts:=[],pin:=0 })]
def Zbw (x:T54):Option (T54 ⊕ (T4 ⊕ Unit)) :=
 bif (decide (x.2.2.1 < x.2.1)) then
 bif (inb x.2.2.1 (List.length x.1)) then
 bif (decide ((((List.length (getAt ([]:List T7) x.1 (toN x.2.2.1))):Nat):Int) > (24:Int))) then
 some (.inr (.inl (x.2.2.1,(Int.negSucc 0),(2:Int))))
 else
 (loop Zbu (x.2.2.1,(getAt ([]:List T7) x.1 (toN x.2.2.1)),x.1,x.2.1,x.2.2.1,(getAt ([]:List T7) x.1 (toN x.2.2.1)),(((List.length (getAt ([]:List T7) x.1 (toN x.2.2.1))):Nat):Int),(0:Int),x.2.2.2)).bind fun r7 =>
 match r7 with
 | .inl y8 =>
 some (.inr (.inl (y8.1,y8.2.1,y8.2.2)))
 | .inr y8 =>
 some (.inl (y8.1,y8.2.1,(IntKind.wrap .i64 (y8.2.2.1+(1:Int))),y8.2.2.2))
 else
 none
 else
 some (.inr (.inr ()))
def Zgq:Ctx:={ tb:=mkTb T2.tbl,fx:=[(97,[],Z112),(98,[],Z10z)],sum:=[(0,11,Yay Zn5 Zlj (loop Zbu))],nt:=51,pin:=0,nr:=true,ys:=[] }
theorem Zbx:CSound Tryz.prog ⟨51,0,true⟩ (.loop (loopOf 6 Tryz.f43)) (Yay Zn6 Zlk (loop Zbw)) :=
 Y8c (C:=Zgq) (ctxOK mixed tbl_ok rfl ⟨Z4i,Z4c,trivial⟩ trivial) (SumOK.of ⟨(Yb0 (d:=.loop (loopOf 11 Tryz.f43)) (by kernel_rfl) Zbv),trivial⟩) Zn6 Zlk rfl rfl Zbw (fun x=>by kernel_rfl)
abbrev Zqc:Shape:={ sl:=sl_6,bl:=[],ts:=[y39],pin:=0 }
abbrev Zvn:Shape:={ sl:=sl_0,bl:=[],ts:=ts_0,pin:=0 }
def Z49 (x:(T47)):Option T4 :=
 (Z4h x).bind fun r5 =>
 bif (r5.2 != (0:Int)) then
 some ((Int.negSucc 0),r5.1,r5.2)
 else
 (loop Zbw (x.2.2.2.2.2,(((List.length x.2.2.2.2.2):Nat):Int),(0:Int),x)).bind fun r6 =>
 match r6 with
 | .inl y7 =>
 some (y7.1,y7.2.1,y7.2.2)
 | .inr y7 =>
 some ((Int.negSucc 0),(Int.negSucc 0),(0:Int))
abbrev Z10y:=Spec.shp Zqc Zvn Z49
def Zgo:Ctx:={ tb:=mkTb T2.tbl,fx:=[(97,[],Z112),(98,[],Z10z)],sum:=[(0,11,Yay Zn5 Zlj (loop Zbu)),(0,6,Yay Zn6 Zlk (loop Zbw))],nt:=51,pin:=0,nr:=true,ys:=[] }
theorem Z4a:Sound Tryz.prog 43 (Z10y) :=
 Sound.shp (C:=Zgo) (fn:=Tryz.f43) (by kernel_rfl) (c:=bodyOf Tryz.f43) (by kernel_rfl) (by decide) (ctxOK mixed tbl_ok rfl ⟨Z4i,Z4c,trivial⟩ trivial) (SumOK.of ⟨(Yb0 (d:=.loop (loopOf 11 Tryz.f43)) (by kernel_rfl) Zbv),(Yb0 (d:=.loop (loopOf 6 Tryz.f43)) (by kernel_rfl) Zbx),trivial⟩) (by kernel_rfl) Zqc Zvn rfl (by decide) (by decide) rfl (by decide) rfl Z49 (fun x=>by kernel_rfl)
abbrev Zqb:Shape:={ sl:=sl_6,bl:=[],ts:=[y39],pin:=0 }
abbrev Zvm:Shape:={ sl:=sl_1,bl:=[],ts:=ts_1,pin:=0 }
def Z47 (x:(T47)):Option (Bool) :=
 (Z49 x).bind fun r4 =>
 some (r4.2.2 == (0:Int))
abbrev Z10x:=Spec.shp Zqb Zvm Z47
def Zgn:Ctx:={ tb:=mkTb T2.tbl,fx:=[(43,[],Z10y)],sum:=[],nt:=14,pin:=0,nr:=true,ys:=[] }
theorem Z48:Sound Tryz.prog 15 (Z10x) :=
 Sound.shp (C:=Zgn) (fn:=Tryz.f15) (by kernel_rfl) (c:=bodyOf Tryz.f15) (by kernel_rfl) (by decide) (ctxOK mixed tbl_ok rfl ⟨Z4a,trivial⟩ trivial) (SumOK.of trivial) (by kernel_rfl) Zqb Zvm rfl (by decide) (by decide) rfl (by decide) rfl Z47 (fun x=>by kernel_rfl)
def Zbt (x:T26):Option (T26 ⊕ ((Bool) ⊕ Unit)) :=
 bif (decide (x.2.2.2 < x.2.2.1)) then
 bif (inb x.2.2.2 (List.length x.1)) then
 bif (inb x.2.2.2 (List.length x.2.1)) then
 bif (Bool.not (((getAt ((0:Int),(0:Int),(0:Int)) x.1 (toN x.2.2.2)).1 == (getAt ((0:Int),(0:Int),(0:Int)) x.2.1 (toN x.2.2.2)).1) && (((getAt ((0:Int),(0:Int),(0:Int)) x.1 (toN x.2.2.2)).2.1 == (getAt ((0:Int),(0:Int),(0:Int)) x.2.1 (toN x.2.2.2)).2.1) && ((getAt ((0:Int),(0:Int),(0:Int)) x.1 (toN x.2.2.2)).2.2 == (getAt ((0:Int),(0:Int),(0:Int)) x.2.1 (toN x.2.2.2)).2.2)))) then
 some (.inr (.inl false))
 else
 some (.inl (x.1,x.2.1,x.2.2.1,(IntKind.wrap .i64 (x.2.2.2+(1:Int)))))
 else
 none
 else
 none
 else
 some (.inr (.inr ()))
def Z46 (x:T24):Option (Bool) :=
 bif ((((List.length x.1):Nat):Int) != (((List.length x.2):Nat):Int)) then
 some false
 else
 (loop Zbt (x.1,x.2,(((List.length x.1):Nat):Int),(0:Int))).bind fun r11 =>
 match r11 with
 | .inl y12 =>
 some y12
 | .inr y12 =>
 some true
abbrev Zna:Shape:={ sl:=[(0,(.hole (.int .i64))),(2,(.ptr 0 [])),(3,(.ptr 1 [])),(4,(.hole (.int .i64)))],bl:=bl_21,ts:=[(.int .i64),(.int .i64),(.int .i64),.bool,(.int .i64),(.int .i64),(.int .i64),(.int .i64),(.int .i64),(.int .i64),.bool,(.int .i64),(.int .i64),(.int .i64),(.int .i64),(.int .i64),y0],pin:=0 }
abbrev Zlo:List (ETag × Shape):=[(.exit 0,{ sl:=sl_37,bl:=bl_21,ts:=[(.int .i64),.bool,(.int .i64),(.int .i64),(.int .i64),(.int .i64),(.int .i64),(.int .i64),.bool,(.int .i64),(.int .i64),(.int .i64),(.int .i64),(.int .i64),y0],pin:=0 })]
def Zc4 (x:(Int × Int × Int × Bool × Int × Int × Int × Int × Int × Int × Bool × Int × Int × Int × Int × Int × List Int)):Option ((Int × Int × Int × Bool × Int × Int × Int × Int × Int × Int × Bool × Int × Int × Int × Int × Int × List Int) ⊕ (Int × Bool × Int × Int × Int × Int × Int × Int × Bool × Int × Int × Int × Int × Int × List Int)) :=
 bif (decide (x.2.1 < x.1)) then
 bif (fits ((List.length x.2.2.2.2.2.2.2.2.2.2.2.2.2.2.2.2)+(List.length ((0:Int) :: ([]:List Int))))) then
 some (.inl (x.1,(IntKind.wrap .i64 (x.2.1+(1:Int))),x.2.2.1,x.2.2.2.1,x.2.2.2.2.1,x.2.2.2.2.2.1,x.2.2.2.2.2.2.1,x.2.2.2.2.2.2.2.1,x.2.2.2.2.2.2.2.2.1,x.2.2.2.2.2.2.2.2.2.1,x.2.2.2.2.2.2.2.2.2.2.1,x.2.2.2.2.2.2.2.2.2.2.2.1,x.2.2.2.2.2.2.2.2.2.2.2.2.1,x.2.2.2.2.2.2.2.2.2.2.2.2.2.1,x.2.2.2.2.2.2.2.2.2.2.2.2.2.2.1,x.2.2.2.2.2.2.2.2.2.2.2.2.2.2.2.1,(x.2.2.2.2.2.2.2.2.2.2.2.2.2.2.2.2++((0:Int) :: ([]:List Int)))))
 else
 none
 else
 some (.inr (x.2.2.1,x.2.2.2.1,x.2.2.2.2.1,x.2.2.2.2.2.1,x.2.2.2.2.2.2.1,x.2.2.2.2.2.2.2.1,x.2.2.2.2.2.2.2.2.1,x.2.2.2.2.2.2.2.2.2.1,x.2.2.2.2.2.2.2.2.2.2.1,x.2.2.2.2.2.2.2.2.2.2.2.1,x.2.2.2.2.2.2.2.2.2.2.2.2.1,x.2.2.2.2.2.2.2.2.2.2.2.2.2.1,x.2.2.2.2.2.2.2.2.2.2.2.2.2.2.1,x.2.2.2.2.2.2.2.2.2.2.2.2.2.2.2.1,x.2.2.2.2.2.2.2.2.2.2.2.2.2.2.2.2))
def Zh1:Ctx:={ tb:=mkTb T2.tbl,fx:=[],sum:=[],nt:=23,pin:=0,nr:=true,ys:=[] }
theorem Zc5:CSound Tryz.prog ⟨23,0,true⟩ (.loop (loopOf 4 Tryz.f50)) (Yay Zna Zlo (loop Zc4)) :=
 Y8c (C:=Zh1) (ctxOK mixed tbl_ok rfl trivial trivial) (SumOK.of trivial) Zna Zlo rfl rfl Zc4 (fun x=>by kernel_rfl)
abbrev Zqj:Shape:={ sl:=sl_2,bl:=[],ts:=ts_2,pin:=0 }
abbrev Zvu:Shape:={ sl:=[(0,(.hole y40))],bl:=[],ts:=[y40],pin:=0 }
def Z4n (x:(Int)):Option T43 :=
 (loop Zc4 (x,(0:Int),(0:Int),false,(0:Int),(0:Int),(0:Int),(0:Int),(0:Int),x,false,(Max.max x (0:Int)),(0:Int),(0:Int),(0:Int),(0:Int),([]:List Int))).bind fun r7 =>
 some (r7.2.2.2.2.2.2.2.1,r7.2.2.2.2.2.2.2.2.1,(r7.2.2.2.2.2.2.2.2.2.1,r7.2.2.2.2.2.2.2.2.2.2.1,r7.2.2.2.2.2.2.2.2.2.2.2.2.2.2,r7.2.2.2.2.2.2.2.2.2.2.2.1),r7.2.2.2.2.2.2.2.2.2.2.2.2.1,r7.2.2.2.2.2.2.2.2.2.2.2.2.2.1,([]:List T7),([]:List T7))
abbrev Z115:=Spec.shp Zqj Zvu Z4n
def Zh0:Ctx:={ tb:=mkTb T2.tbl,fx:=[],sum:=[(0,4,Yay Zna Zlo (loop Zc4))],nt:=23,pin:=0,nr:=true,ys:=[] }
theorem Z4o:Sound Tryz.prog 50 (Z115) :=
 Sound.shp (C:=Zh0) (fn:=Tryz.f50) (by kernel_rfl) (c:=bodyOf Tryz.f50) (by kernel_rfl) (by decide) (ctxOK mixed tbl_ok rfl trivial trivial) (SumOK.of ⟨(Yb0 (d:=.loop (loopOf 4 Tryz.f50)) (by kernel_rfl) Zc5),trivial⟩) (by kernel_rfl) Zqj Zvu rfl (by decide) (by decide) rfl (by decide) rfl Z4n (fun x=>by kernel_rfl)
abbrev Zne:Shape:={ sl:=[(1,(.ptr 0 [])),(2,(.ptr 1 [])),(4,(.ptr 2 [])),(15,(.hole y0)),(16,(.hole (.int .i64))),(17,(.hole (.int .i64)))],bl:=bl_22,ts:=[y0,(.int .i64),(.int .i64),y39,(.int .i64),(.int .i64),(.int .i64),y4,y39,y4,y18,y41],pin:=0 }
abbrev Zls:List (ETag × Shape):=[(.exit 0,{ sl:=[(1,(.ptr 0 [])),(2,(.ptr 1 [])),(4,(.ptr 2 []))],bl:=bl_22,ts:=[y39,(.int .i64),(.int .i64),(.int .i64),y4,y39,y4,y18,y41],pin:=0 })]
def Zcc (x:(List Int × Int × Int × T47 × Int × Int × Int × (Int × Int) × T47 × (Int × Int) × List (T17) × List T43)):Option ((List Int × Int × Int × T47 × Int × Int × Int × (Int × Int) × T47 × (Int × Int) × List (T17) × List T43) ⊕ (T47 × Int × Int × Int × (Int × Int) × T47 × (Int × Int) × List (T17) × List T43)) :=
 bif (decide (x.2.2.1 < x.2.1)) then
 bif (inb x.2.2.1 (List.length x.1)) then
 (Z4n (getAt (0:Int) x.1 (toN x.2.2.1))).bind fun r6 =>
 bif (fits ((List.length x.2.2.2.2.2.2.2.2.2.2.2)+(List.length (r6 :: ([]:List (Int × T41)))))) then
 some (.inl (x.1,x.2.1,(IntKind.wrap .i64 (x.2.2.1+(1:Int))),x.2.2.2.1,x.2.2.2.2.1,x.2.2.2.2.2.1,x.2.2.2.2.2.2.1,x.2.2.2.2.2.2.2.1,x.2.2.2.2.2.2.2.2.1,x.2.2.2.2.2.2.2.2.2.1,x.2.2.2.2.2.2.2.2.2.2.1,(x.2.2.2.2.2.2.2.2.2.2.2++(r6 :: ([]:List (Int × T41))))))
 else
 none
 else
 none
 else
 some (.inr (x.2.2.2.1,x.2.2.2.2.1,x.2.2.2.2.2.1,x.2.2.2.2.2.2.1,x.2.2.2.2.2.2.2.1,x.2.2.2.2.2.2.2.2.1,x.2.2.2.2.2.2.2.2.2.1,x.2.2.2.2.2.2.2.2.2.2.1,x.2.2.2.2.2.2.2.2.2.2.2))
def Zhi:Ctx:={ tb:=mkTb T2.tbl,fx:=[(50,[],Z115)],sum:=[],nt:=63,pin:=0,nr:=true,ys:=[] }
theorem Zcd:CSound Tryz.prog ⟨63,0,true⟩ (.loop (loopOf 4 Tryz.f18)) (Yay Zne Zls (loop Zcc)) :=
 Y8c (C:=Zhi) (ctxOK mixed tbl_ok rfl ⟨Z4o,trivial⟩ trivial) (SumOK.of trivial) Zne Zls rfl rfl Zcc (fun x=>by kernel_rfl)
abbrev Znf:Shape:={ sl:=[(1,(.ptr 0 [])),(2,(.ptr 1 [])),(4,(.ptr 2 [])),(7,(.hole (.int .i64)))],bl:=bl_23,ts:=[(.int .i64),y39,(.int .i64),(.int .i64),(.int .i64),y4,y39,y4,y18,y41,y19],pin:=0 }
abbrev Zlt:List (ETag × Shape):=[(.exit 2,{ sl:=[(1,(.ptr 0 [])),(2,(.ptr 1 [])),(4,(.ptr 2 []))],bl:=bl_23,ts:=[y39,(.int .i64),(.int .i64),(.int .i64),y4,y39,y4,y18,y41,y19],pin:=0 })]
def Zce (x:(Int × T47 × Int × Int × Int × (Int × Int) × T47 × (Int × Int) × List (T17) × List T43 × List (T18))):Option ((Int × T47 × Int × Int × Int × (Int × Int) × T47 × (Int × Int) × List (T17) × List T43 × List (T18)) ⊕ (T47 × Int × Int × Int × (Int × Int) × T47 × (Int × Int) × List (T17) × List T43 × List (T18))) :=
 bif (decide (x.1 < x.2.1.2.1)) then
 bif (fits ((List.length x.2.2.2.2.2.2.2.2.2.2)+(List.length ((false,([]:List T7)) :: ([]:List T22))))) then
 some (.inl ((IntKind.wrap .i64 (x.1+(1:Int))),x.2.1,x.2.2.1,x.2.2.2.1,x.2.2.2.2.1,x.2.2.2.2.2.1,x.2.2.2.2.2.2.1,x.2.2.2.2.2.2.2.1,x.2.2.2.2.2.2.2.2.1,x.2.2.2.2.2.2.2.2.2.1,(x.2.2.2.2.2.2.2.2.2.2++((false,([]:List T7)) :: ([]:List T22)))))
 else
 none
 else
 some (.inr (x.2.1,x.2.2.1,x.2.2.2.1,x.2.2.2.2.1,x.2.2.2.2.2.1,x.2.2.2.2.2.2.1,x.2.2.2.2.2.2.2.1,x.2.2.2.2.2.2.2.2.1,x.2.2.2.2.2.2.2.2.2.1,x.2.2.2.2.2.2.2.2.2.2))
def Zhj:Ctx:={ tb:=mkTb T2.tbl,fx:=[(50,[],Z115)],sum:=[(0,4,Yay Zne Zls (loop Zcc))],nt:=63,pin:=0,nr:=true,ys:=[] }
theorem Zcf:CSound Tryz.prog ⟨63,0,true⟩ (.loop (loopOf 9 Tryz.f18)) (Yay Znf Zlt (loop Zce)) :=
 Y8c (C:=Zhj) (ctxOK mixed tbl_ok rfl ⟨Z4o,trivial⟩ trivial) (SumOK.of ⟨(Yaz (by kernel_rfl)),trivial⟩) Znf Zlt rfl rfl Zce (fun x=>by kernel_rfl)
abbrev Znd:Shape:={ sl:=[(1,(.ptr 0 [])),(2,(.ptr 1 [])),(4,(.ptr 2 [])),(8,(.hole (.int .i64)))],bl:=[.var (.hole y39),.var (.pr (.pr .nl (.pr (.hole (.int .i64)) (.pr (.hole (.int .i64)) (.pr (.hole (.int .i64)) (.pr .nl .nl))))) (.pr .nl (.pr .nl (.pr .nl (.pr .nl (.hole y4)))))),.var (.pr (.hole y39) (.pr (.sl 3) (.pr (.sl 4) (.pr (.sl 5) (.pr (.sl 6) (.hole y4)))))),.row y12,.row y40,.row y15,.row y23],ts:=[(.int .i64),y39,(.int .i64),(.int .i64),(.int .i64),y4,y39,y4,y18,y41,y19,y26],pin:=0 }
abbrev Zlr:List (ETag × Shape):=[(.exit 4,{ sl:=[(2,(.ptr 0 [])),(4,(.ptr 1 []))],bl:=bl_1,ts:=ts_9,pin:=0 })]
def Zca (x:(Int × T47 × Int × Int × Int × (Int × Int) × T47 × (Int × Int) × List (T17) × List T43 × List (T18) × List T29)):Option ((Int × T47 × Int × Int × Int × (Int × Int) × T47 × (Int × Int) × List (T17) × List T43 × List (T18) × List T29) ⊕ (Int × Int × Int × (Int × Int) × T47 × (Int × Int) × List (T17) × List T43 × List (T18) × List T29)) :=
 bif (decide (x.1 < x.2.1.2.2.1)) then
 bif (fits ((List.length x.2.2.2.2.2.2.2.2.2.2.2)+(List.length (((0:Int),(0:Int),([]:List T7)) :: ([]:List (Int × T14)))))) then
 some (.inl ((IntKind.wrap .i64 (x.1+(1:Int))),x.2.1,x.2.2.1,x.2.2.2.1,x.2.2.2.2.1,x.2.2.2.2.2.1,x.2.2.2.2.2.2.1,x.2.2.2.2.2.2.2.1,x.2.2.2.2.2.2.2.2.1,x.2.2.2.2.2.2.2.2.2.1,x.2.2.2.2.2.2.2.2.2.2.1,(x.2.2.2.2.2.2.2.2.2.2.2++(((0:Int),(0:Int),([]:List T7)) :: ([]:List (Int × T14))))))
 else
 none
 else
 some (.inr (x.2.2.1,x.2.2.2.1,x.2.2.2.2.1,x.2.2.2.2.2.1,x.2.2.2.2.2.2.1,x.2.2.2.2.2.2.2.1,x.2.2.2.2.2.2.2.2.1,x.2.2.2.2.2.2.2.2.2.1,x.2.2.2.2.2.2.2.2.2.2.1,x.2.2.2.2.2.2.2.2.2.2.2))
def Zhh:Ctx:={ tb:=mkTb T2.tbl,fx:=[(50,[],Z115)],sum:=[(0,4,Yay Zne Zls (loop Zcc)),(0,9,Yay Znf Zlt (loop Zce))],nt:=63,pin:=0,nr:=true,ys:=[] }
theorem Zcb:CSound Tryz.prog ⟨63,0,true⟩ (.loop (loopOf 13 Tryz.f18)) (Yay Znd Zlr (loop Zca)) :=
 Y8c (C:=Zhh) (ctxOK mixed tbl_ok rfl ⟨Z4o,trivial⟩ trivial) (SumOK.of ⟨(Yaz (by kernel_rfl)),(Yaz (by kernel_rfl)),trivial⟩) Znd Zlr rfl rfl Zca (fun x=>by kernel_rfl)
abbrev Zre:Shape:={ sl:=sl_0,bl:=[],ts:=ts_0,pin:=0 }
abbrev Zwp:Shape:={ sl:=[(0,(.hole y24))],bl:=[],ts:=[y24],pin:=0 }
def Z6d (x:T4):Option (T20) :=
 some (x.1,x.2.1,x.2.2,(0:Int),(Int.negSucc 0))
abbrev Z120:=Spec.shp Zre Zwp Z6d
def Zi7:Ctx:={ tb:=mkTb T2.tbl,fx:=[],sum:=[],nt:=11,pin:=0,nr:=true,ys:=[] }
theorem Z6e:Sound Tryz.prog 53 (Z120) :=
 Sound.shp (C:=Zi7) (fn:=Tryz.f53) (by kernel_rfl) (c:=bodyOf Tryz.f53) (by kernel_rfl) (by decide) (ctxOK mixed tbl_ok rfl trivial trivial) (SumOK.of trivial) (by kernel_rfl) Zre Zwp rfl (by decide) (by decide) rfl (by decide) rfl Z6d (fun x=>by kernel_rfl)
abbrev Zrm:Shape:={ sl:=[(0,(.hole y46)),(1,(.hole y24))],bl:=[],ts:=[y46,y24],pin:=0 }
abbrev Zwx:Shape:={ sl:=sl_39,bl:=[],ts:=[y46],pin:=0 }
def Z6t (x:(T63 × T20)):Option (T63) :=
 bif (fits ((List.length ([]:List T20))+(List.length x.1.2))) then
 bif (fits ((List.length (([]:List T20)++x.1.2))+(List.length (x.2 :: ([]:List T20))))) then
 some ((x.1.1.1,x.1.1.2.1,x.1.1.2.2.1,x.1.1.2.2.2.1,x.1.1.2.2.2.2.1,(IntKind.wrap .i64 (x.1.1.2.2.2.2.2.1+(1:Int))),x.1.1.2.2.2.2.2.2),((([]:List T20)++x.1.2)++(x.2 :: ([]:List T20))))
 else
 none
 else
 none
abbrev Z128:=Spec.shp Zrm Zwx Z6t
def Zij:Ctx:={ tb:=mkTb T2.tbl,fx:=[],sum:=[],nt:=23,pin:=0,nr:=true,ys:=[] }
theorem Z6u:Sound Tryz.prog 52 (Z128) :=
 Sound.shp (C:=Zij) (fn:=Tryz.f52) (by kernel_rfl) (c:=bodyOf Tryz.f52) (by kernel_rfl) (by decide) (ctxOK mixed tbl_ok rfl trivial trivial) (SumOK.of trivial) (by kernel_rfl) Zrm Zwx rfl (by decide) (by decide) rfl (by decide) rfl Z6t (fun x=>by kernel_rfl)
abbrev Zni:Shape:={ sl:=[(1,(.hole (.int .i64))),(3,(.ptr 0 [])),(5,(.ptr 1 [])),(6,(.ptr 2 [])),(7,(.sl 3)),(13,(.hole y18)),(14,(.hole (.int .i64))),(15,(.hole (.int .i64)))],bl:=[.var (.hole y46),.var (.hole y12),.var (.pr (.pr (.pr .nl (.pr (.hole (.int .i64)) (.pr (.hole (.int .i64)) (.pr (.hole (.int .i64)) (.pr .nl .nl))))) (.pr .nl (.pr .nl (.pr .nl (.pr .nl (.hole y4)))))) .nl),.row y12],ts:=[(.int .i64),y18,(.int .i64),(.int .i64),y46,y12,(.int .i64),(.int .i64),(.int .i64),y4,y18],pin:=0 }
abbrev Zlw:List (ETag × Shape):=[(.exit 0,{ sl:=sl_40,bl:=[.var (.hole y46),.var (.pr (.pr (.pr .nl (.pr (.hole (.int .i64)) (.pr (.hole (.int .i64)) (.pr (.hole (.int .i64)) (.pr .nl .nl))))) (.pr .nl (.pr .nl (.pr .nl (.pr .nl (.hole y4)))))) .nl),.row y12],ts:=[y46,(.int .i64),(.int .i64),(.int .i64),y4,y18],pin:=0 })]
def Zck (x:(Int × List (T17) × Int × Int × T63 × T17 × Int × Int × Int × (Int × Int) × List (T17))):Option ((Int × List (T17) × Int × Int × T63 × T17 × Int × Int × Int × (Int × Int) × List (T17)) ⊕ (T63 × Int × Int × Int × (Int × Int) × List (T17))) :=
 bif (decide (x.2.2.2.1 < x.2.2.1)) then
 bif (inb x.2.2.2.1 (List.length x.2.1)) then
 bif (x.2.2.2.1 == x.1) then
 bif (fits ((List.length x.2.2.2.2.2.2.2.2.2.2)+(List.length (x.2.2.2.2.2.1 :: ([]:List T17))))) then
 some (.inl (x.1,x.2.1,x.2.2.1,(IntKind.wrap .i64 (x.2.2.2.1+(1:Int))),x.2.2.2.2.1,x.2.2.2.2.2.1,x.2.2.2.2.2.2.1,x.2.2.2.2.2.2.2.1,x.2.2.2.2.2.2.2.2.1,x.2.2.2.2.2.2.2.2.2.1,(x.2.2.2.2.2.2.2.2.2.2++(x.2.2.2.2.2.1 :: ([]:List T17)))))
 else
 none
 else
 bif (fits ((List.length x.2.2.2.2.2.2.2.2.2.2)+(List.length ((getAt ((0:Int),(0:Int),(0:Int),false) x.2.1 (toN x.2.2.2.1)) :: ([]:List T17))))) then
 some (.inl (x.1,x.2.1,x.2.2.1,(IntKind.wrap .i64 (x.2.2.2.1+(1:Int))),x.2.2.2.2.1,x.2.2.2.2.2.1,x.2.2.2.2.2.2.1,x.2.2.2.2.2.2.2.1,x.2.2.2.2.2.2.2.2.1,x.2.2.2.2.2.2.2.2.2.1,(x.2.2.2.2.2.2.2.2.2.2++((getAt ((0:Int),(0:Int),(0:Int),false) x.2.1 (toN x.2.2.2.1)) :: ([]:List T17)))))
 else
 none
 else
 none
 else
 some (.inr (x.2.2.2.2.1,x.2.2.2.2.2.2.1,x.2.2.2.2.2.2.2.1,x.2.2.2.2.2.2.2.2.1,x.2.2.2.2.2.2.2.2.2.1,x.2.2.2.2.2.2.2.2.2.2))
def Zhv:Ctx:={ tb:=mkTb T2.tbl,fx:=[],sum:=[],nt:=33,pin:=0,nr:=true,ys:=[] }
theorem Zcl:CSound Tryz.prog ⟨33,0,true⟩ (.loop (loopOf 4 Tryz.f105)) (Yay Zni Zlw (loop Zck)) :=
 Y8c (C:=Zhv) (ctxOK mixed tbl_ok rfl trivial trivial) (SumOK.of trivial) Zni Zlw rfl rfl Zck (fun x=>by kernel_rfl)
abbrev Zr5:Shape:={ sl:=[(0,(.hole y46)),(1,(.hole (.int .i64))),(2,(.hole y12))],bl:=[],ts:=[y46,(.int .i64),y12],pin:=0 }
abbrev Zwg:Shape:={ sl:=sl_39,bl:=[],ts:=[y46],pin:=0 }
def Z5v (x:(T63 × Int × T17)):Option (T63) :=
 (loop Zck (x.2.1,x.1.1.2.1,(((List.length x.1.1.2.1):Nat):Int),(0:Int),x.1,x.2.2,(0:Int),(0:Int),(0:Int),((0:Int),(0:Int)),([]:List T17))).bind fun r12 =>
 some ((r12.1.1.1,r12.2.2.2.2.2,r12.1.1.2.2),r12.1.2)
abbrev Z11r:=Spec.shp Zr5 Zwg Z5v
def Zhu:Ctx:={ tb:=mkTb T2.tbl,fx:=[],sum:=[(0,4,Yay Zni Zlw (loop Zck))],nt:=33,pin:=0,nr:=true,ys:=[] }
theorem Z5w:Sound Tryz.prog 105 (Z11r) :=
 Sound.shp (C:=Zhu) (fn:=Tryz.f105) (by kernel_rfl) (c:=bodyOf Tryz.f105) (by kernel_rfl) (by decide) (ctxOK mixed tbl_ok rfl trivial trivial) (SumOK.of ⟨(Yb0 (d:=.loop (loopOf 4 Tryz.f105)) (by kernel_rfl) Zcl),trivial⟩) (by kernel_rfl) Zr5 Zwg rfl (by decide) (by decide) rfl (by decide) rfl Z5v (fun x=>by kernel_rfl)
abbrev Zrn:Shape:={ sl:=[(0,(.hole y46)),(1,(.hole (.int .i64))),(2,(.hole (.int .i64)))],bl:=[],ts:=[y46,(.int .i64),(.int .i64)],pin:=0 }
abbrev Zwy:Shape:={ sl:=sl_39,bl:=[],ts:=[y46],pin:=0 }
def Z6v (x:(T63 × Int × Int)):Option (T63) :=
 bif (inb x.2.1 (List.length x.1.1.2.1)) then
 bif (inb (getAt ((0:Int),(0:Int),(0:Int),false) x.1.1.2.1 (toN x.2.1)).1 (List.length x.1.1.1.2.2.2.2.2)) then
 bif (decide (x.2.2 ≥ (((List.length (getAt ([]:List T7) x.1.1.1.2.2.2.2.2 (toN (getAt ((0:Int),(0:Int),(0:Int),false) x.1.1.2.1 (toN x.2.1)).1))):Nat):Int))) then
 (Z5v (x.1,x.2.1,(getAt ((0:Int),(0:Int),(0:Int),false) x.1.1.2.1 (toN x.2.1)).1,x.2.2,(2:Int),(getAt ((0:Int),(0:Int),(0:Int),false) x.1.1.2.1 (toN x.2.1)).2.2.2)).bind fun r11 =>
 some r11
 else
 (Z5v (x.1,x.2.1,(getAt ((0:Int),(0:Int),(0:Int),false) x.1.1.2.1 (toN x.2.1)).1,x.2.2,(0:Int),(getAt ((0:Int),(0:Int),(0:Int),false) x.1.1.2.1 (toN x.2.1)).2.2.2)).bind fun r11 =>
 some r11
 else
 none
 else
 none
abbrev Z129:=Spec.shp Zrn Zwy Z6v
def Zik:Ctx:={ tb:=mkTb T2.tbl,fx:=[(105,[],Z11r)],sum:=[],nt:=33,pin:=0,nr:=true,ys:=[] }
theorem Z6w:Sound Tryz.prog 51 (Z129) :=
 Sound.shp (C:=Zik) (fn:=Tryz.f51) (by kernel_rfl) (c:=bodyOf Tryz.f51) (by kernel_rfl) (by decide) (ctxOK mixed tbl_ok rfl ⟨Z5w,trivial⟩ trivial) (SumOK.of trivial) (by kernel_rfl) Zrn Zwy rfl (by decide) (by decide) rfl (by decide) rfl Z6v (fun x=>by kernel_rfl)
abbrev Znp:Shape:={ sl:=[(1,(.ptr 0 [])),(2,(.ptr 1 [])),(3,(.hole .bool)),(4,(.hole .bool)),(8,(.hole y18)),(9,(.hole (.int .i64))),(10,(.hole (.int .i64)))],bl:=bl_24,ts:=[.bool,.bool,y18,(.int .i64),(.int .i64),y45,(.int .i64),(.int .i64),(.int .i64),y4],pin:=0 }
abbrev Zm3:List (ETag × Shape):=[(.exit 0,{ sl:=[(1,(.ptr 0 [])),(2,(.ptr 1 [])),(3,(.hole .bool)),(4,(.hole .bool))],bl:=bl_24,ts:=[.bool,.bool,y45,(.int .i64),(.int .i64),(.int .i64),y4],pin:=0 })]
def Zcy (x:(Bool × Bool × List (T17) × Int × Int × (T47 × T61) × Int × Int × Int × (Int × Int))):Option ((Bool × Bool × List (T17) × Int × Int × (T47 × T61) × Int × Int × Int × (Int × Int)) ⊕ (Bool × Bool × (T47 × T61) × Int × Int × Int × (Int × Int))) :=
 bif (decide (x.2.2.2.2.1 < x.2.2.2.1)) then
 bif (inb x.2.2.2.2.1 (List.length x.2.2.1)) then
 bif x.1 then
 bif x.2.1 then
 some (.inl (true,((getAt ((0:Int),(0:Int),(0:Int),false) x.2.2.1 (toN x.2.2.2.2.1)).2.2.1 == (2:Int)),x.2.2.1,x.2.2.2.1,(IntKind.wrap .i64 (x.2.2.2.2.1+(1:Int))),x.2.2.2.2.2.1,x.2.2.2.2.2.2.1,x.2.2.2.2.2.2.2.1,x.2.2.2.2.2.2.2.2.1,x.2.2.2.2.2.2.2.2.2))
 else
 some (.inl (true,false,x.2.2.1,x.2.2.2.1,(IntKind.wrap .i64 (x.2.2.2.2.1+(1:Int))),x.2.2.2.2.2.1,x.2.2.2.2.2.2.1,x.2.2.2.2.2.2.2.1,x.2.2.2.2.2.2.2.2.1,x.2.2.2.2.2.2.2.2.2))
 else
 bif x.2.1 then
 some (.inl (((getAt ((0:Int),(0:Int),(0:Int),false) x.2.2.1 (toN x.2.2.2.2.1)).2.2.1 == (0:Int)),((getAt ((0:Int),(0:Int),(0:Int),false) x.2.2.1 (toN x.2.2.2.2.1)).2.2.1 == (2:Int)),x.2.2.1,x.2.2.2.1,(IntKind.wrap .i64 (x.2.2.2.2.1+(1:Int))),x.2.2.2.2.2.1,x.2.2.2.2.2.2.1,x.2.2.2.2.2.2.2.1,x.2.2.2.2.2.2.2.2.1,x.2.2.2.2.2.2.2.2.2))
 else
 some (.inl (((getAt ((0:Int),(0:Int),(0:Int),false) x.2.2.1 (toN x.2.2.2.2.1)).2.2.1 == (0:Int)),false,x.2.2.1,x.2.2.2.1,(IntKind.wrap .i64 (x.2.2.2.2.1+(1:Int))),x.2.2.2.2.2.1,x.2.2.2.2.2.2.1,x.2.2.2.2.2.2.2.1,x.2.2.2.2.2.2.2.2.1,x.2.2.2.2.2.2.2.2.2))
 else
 none
 else
 some (.inr (x.1,x.2.1,x.2.2.2.2.2.1,x.2.2.2.2.2.2.1,x.2.2.2.2.2.2.2.1,x.2.2.2.2.2.2.2.2.1,x.2.2.2.2.2.2.2.2.2))
def Zig:Ctx:={ tb:=mkTb T2.tbl,fx:=[],sum:=[],nt:=38,pin:=0,nr:=true,ys:=[] }
theorem Zcz:CSound Tryz.prog ⟨38,0,true⟩ (.loop (loopOf 5 Tryz.f54)) (Yay Znp Zm3 (loop Zcy)) :=
 Y8c (C:=Zig) (ctxOK mixed tbl_ok rfl trivial trivial) (SumOK.of trivial) Znp Zm3 rfl rfl Zcy (fun x=>by kernel_rfl)
abbrev Zrj:Shape:={ sl:=[(0,(.hole y45))],bl:=[],ts:=[y45],pin:=0 }
abbrev Zwu:Shape:={ sl:=[(0,(.hole y45))],bl:=[],ts:=[y45],pin:=0 }
def Z6n (x:T62):Option T62 :=
 (loop Zcy (false,true,x.2.1,(((List.length x.2.1):Nat):Int),(0:Int),x,(0:Int),(0:Int),(0:Int),(0:Int),(0:Int))).bind fun r12 =>
 bif (r12.2.2.1.2.2.2.2.2.2 != (0:Int)) then
 some r12.2.2.1
 else
 bif r12.1 then
 some r12.2.2.1
 else
 bif r12.2.1 then
 some (r12.2.2.1.1,r12.2.2.1.2.1,r12.2.2.1.2.2.1,r12.2.2.1.2.2.2.1,r12.2.2.1.2.2.2.2.1,r12.2.2.1.2.2.2.2.2.1,(1:Int))
 else
 some (r12.2.2.1.1,r12.2.2.1.2.1,r12.2.2.1.2.2.1,r12.2.2.1.2.2.2.1,r12.2.2.1.2.2.2.2.1,r12.2.2.1.2.2.2.2.2.1,(2:Int))
abbrev Z125:=Spec.shp Zrj Zwu Z6n
def Zif:Ctx:={ tb:=mkTb T2.tbl,fx:=[],sum:=[(0,5,Yay Znp Zm3 (loop Zcy))],nt:=38,pin:=0,nr:=true,ys:=[] }
theorem Z6o:Sound Tryz.prog 54 (Z125) :=
 Sound.shp (C:=Zif) (fn:=Tryz.f54) (by kernel_rfl) (c:=bodyOf Tryz.f54) (by kernel_rfl) (by decide) (ctxOK mixed tbl_ok rfl trivial trivial) (SumOK.of ⟨(Yb0 (d:=.loop (loopOf 5 Tryz.f54)) (by kernel_rfl) Zcz),trivial⟩) (by kernel_rfl) Zrj Zwu rfl (by decide) (by decide) rfl (by decide) rfl Z6n (fun x=>by kernel_rfl)
abbrev Zqw:Shape:={ sl:=sl_6,bl:=[],ts:=[y39],pin:=0 }
abbrev Zw7:Shape:={ sl:=[(0,(.hole y45)),(1,(.hole y27))],bl:=[],ts:=[y45,y27],pin:=0 }
def Z5d (x:(T47)):Option T63 :=
 (loop Zcc (x.1,(((List.length x.1):Nat):Int),(0:Int),x,(0:Int),(0:Int),(0:Int),((0:Int),(0:Int)),x,((0:Int),(0:Int)),(((0:Int),(0:Int),(0:Int),false) :: ([]:List T17)),([]:List (Int × T41)))).bind fun r5 =>
 (loop Zce ((0:Int),r5.1,r5.2.1,r5.2.2.1,r5.2.2.2.1,r5.2.2.2.2.1,r5.2.2.2.2.2.1,r5.2.2.2.2.2.2.1,r5.2.2.2.2.2.2.2.1,r5.2.2.2.2.2.2.2.2,([]:List T22))).bind fun r6 =>
 (loop Zca ((0:Int),r6.1,r6.2.1,r6.2.2.1,r6.2.2.2.1,r6.2.2.2.2.1,r6.2.2.2.2.2.1,r6.2.2.2.2.2.2.1,r6.2.2.2.2.2.2.2.1,r6.2.2.2.2.2.2.2.2.1,r6.2.2.2.2.2.2.2.2.2,([]:List (Int × T14)))).bind fun r7 =>
 (Z6d ((0:Int),(0:Int),(0:Int))).bind fun r8 =>
 (Z6t (((r7.2.2.2.2.1,r7.2.2.2.2.2.2.1,r7.2.2.2.2.2.2.2.1,r7.2.2.2.2.2.2.2.2.1,r7.2.2.2.2.2.2.2.2.2,r7.2.2.2.2.2.1),([]:List T20)),r8)).bind fun r9 =>
 (Z6v (r9,(0:Int),(0:Int))).bind fun r10 =>
 (Z6n r10.1).bind fun r11 =>
 some (r11,r10.2)
abbrev Z11i:=Spec.shp Zqw Zw7 Z5d
def Zhg:Ctx:={ tb:=mkTb T2.tbl,fx:=[(50,[],Z115),(53,[],Z120),(52,[2000000,2000000,2000000,2000000],Z128),(51,[],Z129),(54,[],Z125)],sum:=[(0,4,Yay Zne Zls (loop Zcc)),(0,9,Yay Znf Zlt (loop Zce)),(0,13,Yay Znd Zlr (loop Zca))],nt:=63,pin:=0,nr:=true,ys:=[] }
theorem Z5e:Sound Tryz.prog 18 (Z11i) :=
 Sound.shp (C:=Zhg) (fn:=Tryz.f18) (by kernel_rfl) (c:=bodyOf Tryz.f18) (by kernel_rfl) (by decide) (ctxOK mixed tbl_ok rfl ⟨Z4o,Z6e,Z6u,Z6w,Z6o,trivial⟩ trivial) (SumOK.of ⟨(Yb0 (d:=.loop (loopOf 4 Tryz.f18)) (by kernel_rfl) Zcd),(Yb0 (d:=.loop (loopOf 9 Tryz.f18)) (by kernel_rfl) Zcf),(Yb0 (d:=.loop (loopOf 13 Tryz.f18)) (by kernel_rfl) Zcb),trivial⟩) (by kernel_rfl) Zqw Zw7 rfl (by decide) (by decide) rfl (by decide) rfl Z5d (fun x=>by kernel_rfl)
abbrev Zr6:Shape:={ sl:=[(0,(.hole y45)),(1,(.hole (.int .i64)))],bl:=[],ts:=[y45,(.int .i64)],pin:=0 }
abbrev Zwh:Shape:={ sl:=sl_17,bl:=[],ts:=[y5],pin:=0 }
def Z5x (x:((T47 × T61) × Int)):Option (T7) :=
 bif (inb x.2 (List.length x.1.2.1)) then
 bif (inb (getAt ((0:Int),(0:Int),(0:Int),false) x.1.2.1 (toN x.2)).1 (List.length x.1.1.2.2.2.2.2)) then
 bif (inb (getAt ((0:Int),(0:Int),(0:Int),false) x.1.2.1 (toN x.2)).2.1 (List.length (getAt ([]:List T7) x.1.1.2.2.2.2.2 (toN (getAt ((0:Int),(0:Int),(0:Int),false) x.1.2.1 (toN x.2)).1)))) then
 some (getAt ((0:Int),(0:Int),(0:Int)) (getAt ([]:List T7) x.1.1.2.2.2.2.2 (toN (getAt ((0:Int),(0:Int),(0:Int),false) x.1.2.1 (toN x.2)).1)) (toN (getAt ((0:Int),(0:Int),(0:Int),false) x.1.2.1 (toN x.2)).2.1))
 else
 none
 else
 none
 else
 none
abbrev Z11s:=Spec.shp Zr6 Zwh Z5x
def Zhw:Ctx:={ tb:=mkTb T2.tbl,fx:=[],sum:=[],nt:=22,pin:=0,nr:=true,ys:=[] }
theorem Z5y:Sound Tryz.prog 55 (Z11s) :=
 Sound.shp (C:=Zhw) (fn:=Tryz.f55) (by kernel_rfl) (c:=bodyOf Tryz.f55) (by kernel_rfl) (by decide) (ctxOK mixed tbl_ok rfl trivial trivial) (SumOK.of trivial) (by kernel_rfl) Zr6 Zwh rfl (by decide) (by decide) rfl (by decide) rfl Z5x (fun x=>by kernel_rfl)
abbrev Zn3:Shape:={ sl:=[(1,(.hole (.int .i64))),(7,(.hole (.slice y5))),(8,(.hole (.int .i64))),(9,(.hole (.int .i64)))],bl:=[],ts:=[(.int .i64),(.slice y5),(.int .i64),(.int .i64)],pin:=0 }
abbrev Zlh:List (ETag × Shape):=[(.ret,{ sl:=sl_3,bl:=[],ts:=ts_2,pin:=0 }),(.exit 0,{ sl:=[],bl:=[],ts:=[],pin:=0 })]
def Zbp (x:(Int × List (T7) × Int × Int)):Option ((Int × List (T7) × Int × Int) ⊕ ((Int) ⊕ Unit)) :=
 bif (decide (x.2.2.2 < x.2.2.1)) then
 bif (inb x.2.2.2 (List.length x.2.1)) then
 bif ((getAt ((0:Int),(0:Int),(0:Int)) x.2.1 (toN x.2.2.2)).1 != x.1) then
 some (.inr (.inl x.2.2.2))
 else
 some (.inl (x.1,x.2.1,x.2.2.1,(IntKind.wrap .i64 (x.2.2.2+(1:Int)))))
 else
 none
 else
 some (.inr (.inr ()))
def Zgk:Ctx:={ tb:=mkTb T2.tbl,fx:=[],sum:=[],nt:=20,pin:=0,nr:=true,ys:=[] }
theorem Zbq:CSound Tryz.prog ⟨20,0,true⟩ (.loop (loopOf 3 Tryz.f159)) (Yay Zn3 Zlh (loop Zbp)) :=
 Y8c (C:=Zgk) (ctxOK mixed tbl_ok rfl trivial trivial) (SumOK.of trivial) Zn3 Zlh rfl rfl Zbp (fun x=>by kernel_rfl)
abbrev Zq9:Shape:={ sl:=sl_23,bl:=[],ts:=ts_12,pin:=0 }
abbrev Zvk:Shape:={ sl:=sl_2,bl:=[],ts:=ts_2,pin:=0 }
def Z42 (x:T15):Option (Int) :=
 (loop Zbp (x.2,x.1,(((List.length x.1):Nat):Int),(0:Int))).bind fun r16 =>
 match r16 with
 | .inl y17 =>
 some y17
 | .inr y17 =>
 some (Int.negSucc 0)
abbrev Z10v:=Spec.shp Zq9 Zvk Z42
def Zgj:Ctx:={ tb:=mkTb T2.tbl,fx:=[],sum:=[(0,3,Yay Zn3 Zlh (loop Zbp))],nt:=20,pin:=0,nr:=true,ys:=[] }
theorem Z43:Sound Tryz.prog 159 (Z10v) :=
 Sound.shp (C:=Zgj) (fn:=Tryz.f159) (by kernel_rfl) (c:=bodyOf Tryz.f159) (by kernel_rfl) (by decide) (ctxOK mixed tbl_ok rfl trivial trivial) (SumOK.of ⟨(Yb0 (d:=.loop (loopOf 3 Tryz.f159)) (by kernel_rfl) Zbq),trivial⟩) (by kernel_rfl) Zq9 Zvk rfl (by decide) (by decide) rfl (by decide) rfl Z42 (fun x=>by kernel_rfl)
abbrev Zql:Shape:={ sl:=[(0,(.hole y40)),(1,(.hole .bool)),(2,(.hole (.int .i64)))],bl:=[],ts:=[y40,.bool,(.int .i64)],pin:=0 }
abbrev Zvw:Shape:={ sl:=sl_1,bl:=[],ts:=ts_1,pin:=0 }
def Z4r (x:((Int × T40) × Bool × Int)):Option (Bool) :=
 bif (x.1.1 == (Int.negSucc 0)) then
 some false
 else
 bif x.1.2.1 then
 some true
 else
 bif x.2.1 then
 (Z42 (x.1.2.2.2.2.2.2,x.2.2)).bind fun r15 =>
 bif (decide (r15 ≥ (0:Int))) then
 some true
 else
 some (decide (x.1.2.2.1.2.2.2 < x.1.1))
 else
 bif (decide (x.1.2.2.1.2.2.2 > (0:Int))) then
 some true
 else
 (Z42 (x.1.2.2.2.2.2.1,x.2.2)).bind fun r15 =>
 some (decide (r15 ≥ (0:Int)))
abbrev Z117:=Spec.shp Zql Zvw Z4r
def Zh3:Ctx:={ tb:=mkTb T2.tbl,fx:=[(159,[],Z10v)],sum:=[],nt:=37,pin:=0,nr:=true,ys:=[] }
theorem Z4s:Sound Tryz.prog 106 (Z117) :=
 Sound.shp (C:=Zh3) (fn:=Tryz.f106) (by kernel_rfl) (c:=bodyOf Tryz.f106) (by kernel_rfl) (by decide) (ctxOK mixed tbl_ok rfl ⟨Z43,trivial⟩ trivial) (SumOK.of trivial) (by kernel_rfl) Zql Zvw rfl (by decide) (by decide) rfl (by decide) rfl Z4r (fun x=>by kernel_rfl)
abbrev Znm:Shape:={ sl:=[(1,(.hole (.int .i64))),(3,(.ptr 0 [])),(7,(.sl 1)),(12,(.hole (.slice y2))),(13,(.hole (.int .i64))),(14,(.hole (.int .i64)))],bl:=bl_13,ts:=ts_13,pin:=0 }
abbrev Zm0:List (ETag × Shape):=[(.exit 0,{ sl:=[(7,(.sl 0))],bl:=[.row y4],ts:=[(.slice y4)],pin:=0 })]
def Zcs (x:T68):Option (T68 ⊕ (T6)) :=
 bif (decide (x.2.2.2.1 < x.2.2.1)) then
 bif (inb x.2.2.2.1 (List.length x.2.1)) then
 bif (inb (getAt (false,(0:Int)) x.2.1 (toN x.2.2.2.1)).2 (List.length x.2.2.2.2.1.2.2.1)) then
 (Z4r ((getAt ((0:Int),false,((0:Int),(0:Int),([]:List Int),(0:Int)),(0:Int),(0:Int),([]:List T7),([]:List T7)) x.2.2.2.2.1.2.2.1 (toN (getAt (false,(0:Int)) x.2.1 (toN x.2.2.2.1)).2)),(getAt (false,(0:Int)) x.2.1 (toN x.2.2.2.1)).1,x.1)).bind fun r14 =>
 bif r14 then
 bif (fits ((List.length x.2.2.2.2.2)+(List.length ((x.1,x.2.2.2.1) :: ([]:List (Int × Int)))))) then
 some (.inl (x.1,x.2.1,x.2.2.1,(IntKind.wrap .i64 (x.2.2.2.1+(1:Int))),x.2.2.2.2.1,(x.2.2.2.2.2++((x.1,x.2.2.2.1) :: ([]:List (Int × Int))))))
 else
 none
 else
 some (.inl (x.1,x.2.1,x.2.2.1,(IntKind.wrap .i64 (x.2.2.2.1+(1:Int))),x.2.2.2.2.1,x.2.2.2.2.2))
 else
 none
 else
 none
 else
 some (.inr x.2.2.2.2.2)
def Zi9:Ctx:={ tb:=mkTb T2.tbl,fx:=[(106,[],Z117)],sum:=[],nt:=37,pin:=0,nr:=true,ys:=[] }
theorem Zct:CSound Tryz.prog ⟨37,0,true⟩ (.loop (loopOf 4 Tryz.f56)) (Yay Znm Zm0 (loop Zcs)) :=
 Y8c (C:=Zi9) (ctxOK mixed tbl_ok rfl ⟨Z4s,trivial⟩ trivial) (SumOK.of trivial) Znm Zm0 rfl rfl Zcs (fun x=>by kernel_rfl)
abbrev Zrf:Shape:={ sl:=[(0,(.hole y45)),(1,(.hole (.int .i64))),(2,(.hole y9))],bl:=[],ts:=[y45,(.int .i64),y9],pin:=0 }
abbrev Zwq:Shape:={ sl:=[(0,(.sl 0))],bl:=[.row y4],ts:=[(.slice y4)],pin:=0 }
def Z6f (x:((T47 × T61) × Int × T12)):Option T6 :=
 (loop Zcs (x.2.1,x.2.2.1,(((List.length x.2.2.1):Nat):Int),(0:Int),x.1,([]:List (Int × Int)))).bind fun r13 =>
 some r13
abbrev Z121:=Spec.shp Zrf Zwq Z6f
def Zi8:Ctx:={ tb:=mkTb T2.tbl,fx:=[(106,[],Z117)],sum:=[(0,4,Yay Znm Zm0 (loop Zcs))],nt:=37,pin:=0,nr:=true,ys:=[] }
theorem Z6g:Sound Tryz.prog 56 (Z121) :=
 Sound.shp (C:=Zi8) (fn:=Tryz.f56) (by kernel_rfl) (c:=bodyOf Tryz.f56) (by kernel_rfl) (by decide) (ctxOK mixed tbl_ok rfl ⟨Z4s,trivial⟩ trivial) (SumOK.of ⟨(Yb0 (d:=.loop (loopOf 4 Tryz.f56)) (by kernel_rfl) Zct),trivial⟩) (by kernel_rfl) Zrf Zwq rfl (by decide) (by decide) rfl (by decide) rfl Z6f (fun x=>by kernel_rfl)
abbrev Znc:Shape:={ sl:=[(1,(.ptr 0 [])),(3,(.sl 1)),(10,(.hole y18)),(11,(.hole (.int .i64))),(12,(.hole (.int .i64)))],bl:=bl_13,ts:=[y18,(.int .i64),(.int .i64),y45,(.slice y4)],pin:=0 }
abbrev Zlq:List (ETag × Shape):=[(.exit 0,{ sl:=[(3,(.sl 0))],bl:=[.row y4],ts:=[(.slice y4)],pin:=0 })]
def Zc8 (x:T67):Option (T67 ⊕ (T6)) :=
 bif (decide (x.2.2.1 < x.2.1)) then
 bif (inb x.2.2.1 (List.length x.1)) then
 bif (x.2.2.2.1.2.2.2.2.2.2 != (0:Int)) then
 some (.inl (x.1,x.2.1,(IntKind.wrap .i64 (x.2.2.1+(1:Int))),x.2.2.2.1,x.2.2.2.2))
 else
 bif ((getAt ((0:Int),(0:Int),(0:Int),false) x.1 (toN x.2.2.1)).2.2.1 != (0:Int)) then
 some (.inl (x.1,x.2.1,(IntKind.wrap .i64 (x.2.2.1+(1:Int))),x.2.2.2.1,x.2.2.2.2))
 else
 (Z5x (x.2.2.2.1,x.2.2.1)).bind fun r11 =>
 bif (r11.1 == (4:Int)) then
 bif (inb r11.2.1 (List.length x.2.2.2.1.1.2.2.2.2.1)) then
 (Z6f (x.2.2.2.1,x.2.2.1,(getAt (([]:List T0),false) x.2.2.2.1.1.2.2.2.2.1 (toN r11.2.1)))).bind fun r12 =>
 bif ((((List.length r12):Nat):Int) == (0:Int)) then
 bif (fits ((List.length r12)+(List.length ((x.2.2.1,(Int.negSucc 0)) :: ([]:List (Int × Int)))))) then
 bif (fits ((List.length x.2.2.2.2)+(List.length (r12++((x.2.2.1,(Int.negSucc 0)) :: ([]:List (Int × Int))))))) then
 some (.inl (x.1,x.2.1,(IntKind.wrap .i64 (x.2.2.1+(1:Int))),x.2.2.2.1,(x.2.2.2.2++(r12++((x.2.2.1,(Int.negSucc 0)) :: ([]:List (Int × Int)))))))
 else
 none
 else
 none
 else
 bif (fits ((List.length x.2.2.2.2)+(List.length r12))) then
 some (.inl (x.1,x.2.1,(IntKind.wrap .i64 (x.2.2.1+(1:Int))),x.2.2.2.1,(x.2.2.2.2++r12)))
 else
 none
 else
 none
 else
 bif (fits ((List.length x.2.2.2.2)+(List.length (([]:List (Int × Int))++((x.2.2.1,(Int.negSucc 0)) :: ([]:List (Int × Int))))))) then
 some (.inl (x.1,x.2.1,(IntKind.wrap .i64 (x.2.2.1+(1:Int))),x.2.2.2.1,(x.2.2.2.2++(([]:List (Int × Int))++((x.2.2.1,(Int.negSucc 0)) :: ([]:List (Int × Int)))))))
 else
 none
 else
 none
 else
 some (.inr x.2.2.2.2)
def Zhf:Ctx:={ tb:=mkTb T2.tbl,fx:=[(55,[],Z11s),(56,[],Z121)],sum:=[],nt:=55,pin:=0,nr:=true,ys:=[] }
theorem Zc9:CSound Tryz.prog ⟨55,0,true⟩ (.loop (loopOf 4 Tryz.f20)) (Yay Znc Zlq (loop Zc8)) :=
 Y8c (C:=Zhf) (ctxOK mixed tbl_ok rfl ⟨Z5y,Z6g,trivial⟩ trivial) (SumOK.of trivial) Znc Zlq rfl rfl Zc8 (fun x=>by kernel_rfl)
abbrev Zqv:Shape:={ sl:=[(0,(.hole y45))],bl:=[],ts:=[y45],pin:=0 }
abbrev Zw6:Shape:={ sl:=[(0,(.hole (.slice y4)))],bl:=[],ts:=[(.slice y4)],pin:=0 }
def Z5b (x:T62):Option T6 :=
 (loop Zc8 (x.2.1,(((List.length x.2.1):Nat):Int),(0:Int),x,([]:List (Int × Int)))).bind fun r10 =>
 some r10
abbrev Z11h:=Spec.shp Zqv Zw6 Z5b
def Zhe:Ctx:={ tb:=mkTb T2.tbl,fx:=[(55,[],Z11s),(56,[],Z121)],sum:=[(0,4,Yay Znc Zlq (loop Zc8))],nt:=55,pin:=0,nr:=true,ys:=[] }
theorem Z5c:Sound Tryz.prog 20 (Z11h) :=
 Sound.shp (C:=Zhe) (fn:=Tryz.f20) (by kernel_rfl) (c:=bodyOf Tryz.f20) (by kernel_rfl) (by decide) (ctxOK mixed tbl_ok rfl ⟨Z5y,Z6g,trivial⟩ trivial) (SumOK.of ⟨(Yb0 (d:=.loop (loopOf 4 Tryz.f20)) (by kernel_rfl) Zc9),trivial⟩) (by kernel_rfl) Zqv Zw6 rfl (by decide) (by decide) rfl (by decide) rfl Z5b (fun x=>by kernel_rfl)
end
end Go.Proofs.YthdlpkdojipfhaaGreat.VX.VxM_M

