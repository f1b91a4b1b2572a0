/- Laid for the law RunTells. -/
import Derived.Test.YthdlpkdojipfhaaGreatRunTellsF0
set_option linter.unusedVariables false
set_option maxRecDepth 100000
namespace Go.Proofs.YthdlpkdojipfhaaGreat.VX.VxM_M
open Go.Proofs Go.Proofs.YthdlpkdojipfhaaGreat.VX.T2
noncomputable section
abbrev Zom:Shape:={ sl:=sl_27,bl:=[],ts:=[y40,y5],pin:=0 }
abbrev Ztz:Shape:={ sl:=sl_28,bl:=[],ts:=[y40,y30,(.int .i64)],pin:=0 }
def Zc (x:T45):Option T48 :=
 (Za x.1).bind fun r18 =>
 bif (Bool.not r18) then
 some (((0:Int),false,((0:Int),(0:Int),([]:List Int),(0:Int)),(0:Int),(0:Int),([]:List T7),([]:List T7)),((0:Int),(0:Int),((0:Int),(0:Int),(0:Int)),(0:Int)),(1:Int))
 else
 (Ze x.2).bind fun r19 =>
 bif (Bool.not r19) then
 some (((0:Int),false,((0:Int),(0:Int),([]:List Int),(0:Int)),(0:Int),(0:Int),([]:List T7),([]:List T7)),((0:Int),(0:Int),((0:Int),(0:Int),(0:Int)),(0:Int)),(1:Int))
 else
 (Zq (x.1.2.2.2.2.2.2,x.1,x.2.1)).bind fun r20 =>
 (Zl r20.2).bind fun r21 =>
 bif r21.1 then
 some (x.1,((0:Int),(0:Int),((Int.negSucc 0),(0:Int),(0:Int)),(0:Int)),(0:Int))
 else
 bif r20.2.1.2.1 then
 some (x.1,((3:Int),(0:Int),((Int.negSucc 0),(0:Int),(0:Int)),(0:Int)),(0:Int))
 else
 bif (r20.1.1 != (Int.negSucc 0)) then
 bif (r20.2.1.2.2.2.1 == (1048576:Int)) then
 some (((0:Int),false,((0:Int),(0:Int),([]:List Int),(0:Int)),(0:Int),(0:Int),([]:List T7),([]:List T7)),((0:Int),(0:Int),((0:Int),(0:Int),(0:Int)),(0:Int)),(5:Int))
 else
 bif (r20.1.1 != (Int.negSucc 0)) then
 (Zo (r20.1.1,r20.2)).bind fun r22 =>
 (Zs r22).bind fun r23 =>
 some (r23.2.1,((1:Int),r23.1,r20.1,r23.1),(0:Int))
 else
 (Zi r20.2).bind fun r22 =>
 bif (Bool.not r22.1) then
 (Zw r20.2).bind fun r23 =>
 some (r23.2.1,((1:Int),r23.1,r20.1,(0:Int)),(0:Int))
 else
 (Zan (r20.2.1.2.2.2.2.2.1,x.2)).bind fun r23 =>
 bif (r23.2 != (0:Int)) then
 some (((0:Int),false,((0:Int),(0:Int),([]:List Int),(0:Int)),(0:Int),(0:Int),([]:List T7),([]:List T7)),((0:Int),(0:Int),((0:Int),(0:Int),(0:Int)),(0:Int)),r23.2)
 else
 some ((r20.2.1.1,r20.2.1.2.1,r20.2.1.2.2.1,r20.2.1.2.2.2.1,r20.2.1.2.2.2.2.1,r23.1,r20.2.1.2.2.2.2.2.2),((0:Int),(0:Int),r20.1,(0:Int)),(0:Int))
 else
 (Zi r20.2).bind fun r22 =>
 bif (Bool.not r22.1) then
 bif (r20.2.1.2.2.2.1 == (1048576:Int)) then
 some (((0:Int),false,((0:Int),(0:Int),([]:List Int),(0:Int)),(0:Int),(0:Int),([]:List T7),([]:List T7)),((0:Int),(0:Int),((0:Int),(0:Int),(0:Int)),(0:Int)),(5:Int))
 else
 bif (r20.1.1 != (Int.negSucc 0)) then
 (Zo (r20.1.1,r20.2)).bind fun r23 =>
 (Zs r23).bind fun r24 =>
 some (r24.2.1,((1:Int),r24.1,r20.1,r24.1),(0:Int))
 else
 (Zi r20.2).bind fun r23 =>
 bif (Bool.not r23.1) then
 (Zw r20.2).bind fun r24 =>
 some (r24.2.1,((1:Int),r24.1,r20.1,(0:Int)),(0:Int))
 else
 (Zan (r20.2.1.2.2.2.2.2.1,x.2)).bind fun r24 =>
 bif (r24.2 != (0:Int)) then
 some (((0:Int),false,((0:Int),(0:Int),([]:List Int),(0:Int)),(0:Int),(0:Int),([]:List T7),([]:List T7)),((0:Int),(0:Int),((0:Int),(0:Int),(0:Int)),(0:Int)),r24.2)
 else
 some ((r20.2.1.1,r20.2.1.2.1,r20.2.1.2.2.1,r20.2.1.2.2.2.1,r20.2.1.2.2.2.2.1,r24.1,r20.2.1.2.2.2.2.2.2),((0:Int),(0:Int),r20.1,(0:Int)),(0:Int))
 else
 bif (r20.1.1 != (Int.negSucc 0)) then
 (Zo (r20.1.1,r20.2)).bind fun r23 =>
 (Zs r23).bind fun r24 =>
 some (r24.2.1,((1:Int),r24.1,r20.1,r24.1),(0:Int))
 else
 (Zi r20.2).bind fun r23 =>
 bif (Bool.not r23.1) then
 (Zw r20.2).bind fun r24 =>
 some (r24.2.1,((1:Int),r24.1,r20.1,(0:Int)),(0:Int))
 else
 (Zan (r20.2.1.2.2.2.2.2.1,x.2)).bind fun r24 =>
 bif (r24.2 != (0:Int)) then
 some (((0:Int),false,((0:Int),(0:Int),([]:List Int),(0:Int)),(0:Int),(0:Int),([]:List T7),([]:List T7)),((0:Int),(0:Int),((0:Int),(0:Int),(0:Int)),(0:Int)),r24.2)
 else
 some ((r20.2.1.1,r20.2.1.2.1,r20.2.1.2.2.1,r20.2.1.2.2.2.1,r20.2.1.2.2.2.2.1,r24.1,r20.2.1.2.2.2.2.2.2),((0:Int),(0:Int),r20.1,(0:Int)),(0:Int))
abbrev Zzc:=Spec.shp Zom Ztz Zc
def Zee:Ctx:={ tb:=mkTb T2.tbl,fx:=[(112,[],Zzb),(206,[],Zzd),(167,[],Zzi),(165,[],Spec.shpR Zoq Zu3 Zl),(205,[],Zzh),(209,[],Zzj),(166,[],Spec.shpR Zop Zu2 Zi),(208,[],Zzl),(171,[],Z14d)],sum:=[],nt:=128,pin:=0,nr:=true,ys:=[] }
theorem Zd:Sound Tryz.prog 170 (Zzc) :=
 Sound.shp (C:=Zee) (fn:=Tryz.f170) (by kernel_rfl) (c:=bodyOf Tryz.f170) (by kernel_rfl) (by decide) (ctxOK mixed tbl_ok rfl ⟨Zb,Zf,Zr,Zn,Zp,Zt,Zk,Zx,Zao,trivial⟩ trivial) (SumOK.of trivial) (by kernel_rfl) Zom Ztz rfl (by decide) (by decide) rfl (by decide) rfl Zc (fun x=>by kernel_rfl)
abbrev Zsi:Shape:={ sl:=[(0,(.hole y21))],bl:=[],ts:=[y21],pin:=0 }
abbrev Zxv:Shape:={ sl:=[(0,(.hole y21)),(1,(.hole (.int .i64))),(2,(.hole (.int .i64)))],bl:=[],ts:=[y21,(.int .i64),(.int .i64)],pin:=0 }
def Z89 (x:(T16)):Option (T16 × Int × Int) :=
 (Z8d x).bind fun r25 =>
 bif (Bool.not r25) then
 some (((0:Int),(0:Int),([]:List Int),(0:Int)),(0:Int),(1:Int))
 else
 bif (x.2.2.2 == (0:Int)) then
 some (((0:Int),(0:Int),([]:List Int),(0:Int)),(0:Int),(4:Int))
 else
 (Z8j (x,(0:Int))).bind fun r26 =>
 bif (inb r26 (List.length x.2.2.1)) then
 (Z8j (x,(1:Int))).bind fun r27 =>
 some ((x.1,r27,x.2.2.1,(IntKind.wrap .i64 (x.2.2.2 - (1:Int)))),(getAt (0:Int) x.2.2.1 (toN r26)),(0:Int))
 else
 none
abbrev Z137:=Spec.shp Zsi Zxv Z89
def Zjj:Ctx:={ tb:=mkTb T2.tbl,fx:=[(196,[],Z139),(232,[],Z13c)],sum:=[],nt:=34,pin:=0,nr:=true,ys:=[] }
theorem Z8a:Sound Tryz.prog 234 (Z137) :=
 Sound.shp (C:=Zjj) (fn:=Tryz.f234) (by kernel_rfl) (c:=bodyOf Tryz.f234) (by kernel_rfl) (by decide) (ctxOK mixed tbl_ok rfl ⟨Z8e,Z8m,trivial⟩ trivial) (SumOK.of trivial) (by kernel_rfl) Zsi Zxv rfl (by decide) (by decide) rfl (by decide) rfl Z89 (fun x=>by kernel_rfl)
abbrev Zou:Shape:={ sl:=sl_15,bl:=bl_12,ts:=[y42],pin:=0 }
abbrev Zu7:Shape:={ sl:=sl_2,bl:=bl_12,ts:=[(.int .i64),y42],pin:=1 }
def Zu (x:(T46)):Option (Int × T46) :=
 (Z89 x.1.2.2.1).bind fun r24 =>
 some (r24.2.1,(x.1.1,x.1.2.1,r24.1,x.1.2.2.2.1,(IntKind.wrap .i64 (x.1.2.2.2.2.1+(1:Int))),x.1.2.2.2.2.2),x.2)
abbrev Zzk:=Spec.shp Zou Zu7 Zu
def Zen:Ctx:={ tb:=mkTb T2.tbl,fx:=[(234,[],Z137)],sum:=[],nt:=28,pin:=1,nr:=true,ys:=[] }
theorem Zv:Sound Tryz.prog 207 (Zzk) :=
 Sound.shp (C:=Zen) (fn:=Tryz.f207) (by kernel_rfl) (c:=bodyOf Tryz.f207) (by kernel_rfl) (by decide) (ctxOK mixed tbl_ok rfl ⟨Z8a,trivial⟩ trivial) (SumOK.of trivial) (by kernel_rfl) Zou Zu7 rfl (by decide) (by decide) rfl (by decide) rfl Zu (fun x=>by kernel_rfl)
abbrev Zok:Shape:={ sl:=sl_27,bl:=[],ts:=[y40,y5],pin:=0 }
abbrev Ztx:Shape:={ sl:=sl_28,bl:=[],ts:=[y40,y30,(.int .i64)],pin:=0 }
def Z8 (x:T45):Option T48 :=
 (Za x.1).bind fun r18 =>
 bif (Bool.not r18) then
 some (((0:Int),false,((0:Int),(0:Int),([]:List Int),(0:Int)),(0:Int),(0:Int),([]:List T7),([]:List T7)),((0:Int),(0:Int),((0:Int),(0:Int),(0:Int)),(0:Int)),(1:Int))
 else
 (Ze x.2).bind fun r19 =>
 bif (Bool.not r19) then
 some (((0:Int),false,((0:Int),(0:Int),([]:List Int),(0:Int)),(0:Int),(0:Int),([]:List T7),([]:List T7)),((0:Int),(0:Int),((0:Int),(0:Int),(0:Int)),(0:Int)),(1:Int))
 else
 (Zq (x.1.2.2.2.2.2.1,x.1,x.2.1)).bind fun r20 =>
 bif (r20.1.1 != (Int.negSucc 0)) then
 bif (r20.2.1.2.2.2.1 == (1048576:Int)) then
 some (((0:Int),false,((0:Int),(0:Int),([]:List Int),(0:Int)),(0:Int),(0:Int),([]:List T7),([]:List T7)),((0:Int),(0:Int),((0:Int),(0:Int),(0:Int)),(0:Int)),(5:Int))
 else
 (Zo (r20.1.1,r20.2)).bind fun r21 =>
 (Zl r21).bind fun r22 =>
 bif r22.1 then
 some (x.1,((0:Int),(0:Int),r20.1,(0:Int)),(0:Int))
 else
 bif (decide (r21.1.2.2.1.2.2.2 > (0:Int))) then
 (Zu r21).bind fun r23 =>
 bif (r20.1.1 != (Int.negSucc 0)) then
 (Zw r23.2).bind fun r24 =>
 some (r24.2.1,((1:Int),r23.1,r20.1,r24.1),(0:Int))
 else
 some (r23.2.1,((1:Int),r23.1,r20.1,(0:Int)),(0:Int))
 else
 bif (r20.1.1 != (Int.negSucc 0)) then
 (Zs r21).bind fun r23 =>
 some (r23.2.1,((1:Int),r23.1,r20.1,r23.1),(0:Int))
 else
 bif r21.1.2.1 then
 some (x.1,((2:Int),(0:Int),r20.1,(0:Int)),(0:Int))
 else
 (Zan (r21.1.2.2.2.2.2.2,x.2)).bind fun r23 =>
 bif (r23.2 != (0:Int)) then
 some (((0:Int),false,((0:Int),(0:Int),([]:List Int),(0:Int)),(0:Int),(0:Int),([]:List T7),([]:List T7)),((0:Int),(0:Int),((0:Int),(0:Int),(0:Int)),(0:Int)),r23.2)
 else
 some ((r21.1.1,r21.1.2.1,r21.1.2.2.1,r21.1.2.2.2.1,r21.1.2.2.2.2.1,r21.1.2.2.2.2.2.1,r23.1),((0:Int),(0:Int),r20.1,(0:Int)),(0:Int))
 else
 (Zl r20.2).bind fun r21 =>
 bif r21.1 then
 some (x.1,((0:Int),(0:Int),r20.1,(0:Int)),(0:Int))
 else
 bif (decide (r20.2.1.2.2.1.2.2.2 > (0:Int))) then
 (Zu r20.2).bind fun r22 =>
 bif (r20.1.1 != (Int.negSucc 0)) then
 (Zw r22.2).bind fun r23 =>
 some (r23.2.1,((1:Int),r22.1,r20.1,r23.1),(0:Int))
 else
 some (r22.2.1,((1:Int),r22.1,r20.1,(0:Int)),(0:Int))
 else
 bif (r20.1.1 != (Int.negSucc 0)) then
 (Zs r20.2).bind fun r22 =>
 some (r22.2.1,((1:Int),r22.1,r20.1,r22.1),(0:Int))
 else
 bif r20.2.1.2.1 then
 some (x.1,((2:Int),(0:Int),r20.1,(0:Int)),(0:Int))
 else
 (Zan (r20.2.1.2.2.2.2.2.2,x.2)).bind fun r22 =>
 bif (r22.2 != (0:Int)) then
 some (((0:Int),false,((0:Int),(0:Int),([]:List Int),(0:Int)),(0:Int),(0:Int),([]:List T7),([]:List T7)),((0:Int),(0:Int),((0:Int),(0:Int),(0:Int)),(0:Int)),r22.2)
 else
 some ((r20.2.1.1,r20.2.1.2.1,r20.2.1.2.2.1,r20.2.1.2.2.2.1,r20.2.1.2.2.2.2.1,r20.2.1.2.2.2.2.2.1,r22.1),((0:Int),(0:Int),r20.1,(0:Int)),(0:Int))
abbrev Zza:=Spec.shp Zok Ztx Z8
def Zec:Ctx:={ tb:=mkTb T2.tbl,fx:=[(112,[],Zzb),(206,[],Zzd),(167,[],Zzi),(205,[],Zzh),(165,[],Spec.shpR Zoq Zu3 Zl),(207,[],Zzk),(208,[],Zzl),(209,[],Zzj),(171,[],Z14d)],sum:=[],nt:=130,pin:=0,nr:=true,ys:=[] }
theorem Z9:Sound Tryz.prog 169 (Zza) :=
 Sound.shp (C:=Zec) (fn:=Tryz.f169) (by kernel_rfl) (c:=bodyOf Tryz.f169) (by kernel_rfl) (by decide) (ctxOK mixed tbl_ok rfl ⟨Zb,Zf,Zr,Zp,Zn,Zv,Zx,Zt,Zao,trivial⟩ trivial) (SumOK.of trivial) (by kernel_rfl) Zok Ztx rfl (by decide) (by decide) rfl (by decide) rfl Z8 (fun x=>by kernel_rfl)
abbrev Zpn:Shape:={ sl:=sl_29,bl:=bl_2,ts:=[y5,(.int .i64),.bool,y39,y4,y18,y41,y19,y26,y27],pin:=0 }
abbrev Zv0:Shape:={ sl:=[(0,(.hole y30))],bl:=bl_2,ts:=[y30,y39,y4,y18,y41,y19,y26,y27],pin:=1 }
def Z2g (x:(T7 × Int × Bool × T47 × (Int × Int) × List (T17) × List T43 × List (T18) × List T29 × List (T20))):Option ((Int × T23) × T47 × (Int × Int) × List (T17) × List T43 × List (T18) × List T29 × List (T20)) :=
 bif x.2.2.1 then
 bif (inb x.2.1 (List.length x.2.2.2.2.2.2.1)) then
 (Zc ((getAt ((0:Int),false,((0:Int),(0:Int),([]:List Int),(0:Int)),(0:Int),(0:Int),([]:List T7),([]:List T7)) x.2.2.2.2.2.2.1 (toN x.2.1)),x.1)).bind fun r17 =>
 bif (inb x.2.1 (List.length x.2.2.2.2.2.2.1)) then
 some (r17.2.1,x.2.2.2.1,x.2.2.2.2.1,x.2.2.2.2.2.1,(List.set x.2.2.2.2.2.2.1 (toN x.2.1) r17.1),x.2.2.2.2.2.2.2.1,x.2.2.2.2.2.2.2.2.1,x.2.2.2.2.2.2.2.2.2)
 else
 none
 else
 none
 else
 bif (inb x.2.1 (List.length x.2.2.2.2.2.2.1)) then
 (Z8 ((getAt ((0:Int),false,((0:Int),(0:Int),([]:List Int),(0:Int)),(0:Int),(0:Int),([]:List T7),([]:List T7)) x.2.2.2.2.2.2.1 (toN x.2.1)),x.1)).bind fun r17 =>
 bif (inb x.2.1 (List.length x.2.2.2.2.2.2.1)) then
 some (r17.2.1,x.2.2.2.1,x.2.2.2.2.1,x.2.2.2.2.2.1,(List.set x.2.2.2.2.2.2.1 (toN x.2.1) r17.1),x.2.2.2.2.2.2.2.1,x.2.2.2.2.2.2.2.2.1,x.2.2.2.2.2.2.2.2.2)
 else
 none
 else
 none
abbrev Z10d:=Spec.shp Zpn Zv0 Z2g
def Zfo:Ctx:={ tb:=mkTb T2.tbl,fx:=[(170,[],Zzc),(169,[],Zza)],sum:=[],nt:=38,pin:=1,nr:=true,ys:=[] }
theorem Z2h:Sound Tryz.prog 124 (Z10d) :=
 Sound.shp (C:=Zfo) (fn:=Tryz.f124) (by kernel_rfl) (c:=bodyOf Tryz.f124) (by kernel_rfl) (by decide) (ctxOK mixed tbl_ok rfl ⟨Zd,Z9,trivial⟩ trivial) (SumOK.of trivial) (by kernel_rfl) Zpn Zv0 rfl (by decide) (by decide) rfl (by decide) rfl Z2g (fun x=>by kernel_rfl)
abbrev Zq1:Shape:={ sl:=sl_25,bl:=bl_2,ts:=ts_10,pin:=0 }
abbrev Zve:Shape:={ sl:=[],bl:=bl_2,ts:=ts_11,pin:=1 }
def Z39 (x:T58):Option T57 :=
 bif (inb x.1 (List.length x.2.2.2.1)) then
 some (x.2.1,x.2.2.1,(List.set x.2.2.2.1 (toN x.1) ((getAt ((0:Int),(0:Int),(0:Int),false) x.2.2.2.1 (toN x.1)).1,(getAt ((0:Int),(0:Int),(0:Int),false) x.2.2.2.1 (toN x.1)).2.1,(1:Int),(getAt ((0:Int),(0:Int),(0:Int),false) x.2.2.2.1 (toN x.1)).2.2.2)),x.2.2.2.2.1,x.2.2.2.2.2.1,x.2.2.2.2.2.2.1,x.2.2.2.2.2.2.2)
 else
 none
abbrev Z10r:=Spec.shp Zq1 Zve Z39
def Zg4:Ctx:={ tb:=mkTb T2.tbl,fx:=[],sum:=[],nt:=12,pin:=1,nr:=true,ys:=[] }
theorem Z3a:Sound Tryz.prog 125 (Z10r) :=
 Sound.shp (C:=Zg4) (fn:=Tryz.f125) (by kernel_rfl) (c:=bodyOf Tryz.f125) (by kernel_rfl) (by decide) (ctxOK mixed tbl_ok rfl trivial trivial) (SumOK.of trivial) (by kernel_rfl) Zq1 Zve rfl (by decide) (by decide) rfl (by decide) rfl Z39 (fun x=>by kernel_rfl)
abbrev Zoh:Shape:={ sl:=sl_13,bl:=[],ts:=[y40,(.int .i64)],pin:=0 }
abbrev Ztu:Shape:={ sl:=sl_13,bl:=[],ts:=[y40,(.int .i64)],pin:=0 }
def Z2 (x:T46):Option T46 :=
 (Za x.1).bind fun r23 =>
 bif (Bool.not r23) then
 some (((0:Int),false,((0:Int),(0:Int),([]:List Int),(0:Int)),(0:Int),(0:Int),([]:List T7),([]:List T7)),(1:Int))
 else
 bif (decide (x.2 < (0:Int))) then
 some (((0:Int),false,((0:Int),(0:Int),([]:List Int),(0:Int)),(0:Int),(0:Int),([]:List T7),([]:List T7)),(1:Int))
 else
 (Zo (x.2,x.1,x.2)).bind fun r24 =>
 some (r24.1,(0:Int))
abbrev Zz7:=Spec.shp Zoh Ztu Z2
def Ze9:Ctx:={ tb:=mkTb T2.tbl,fx:=[(112,[],Zzb),(205,[],Zzh)],sum:=[],nt:=26,pin:=0,nr:=true,ys:=[] }
theorem Z3:Sound Tryz.prog 168 (Zz7) :=
 Sound.shp (C:=Ze9) (fn:=Tryz.f168) (by kernel_rfl) (c:=bodyOf Tryz.f168) (by kernel_rfl) (by decide) (ctxOK mixed tbl_ok rfl ⟨Zb,Zp,trivial⟩ trivial) (SumOK.of trivial) (by kernel_rfl) Zoh Ztu rfl (by decide) (by decide) rfl (by decide) rfl Z2 (fun x=>by kernel_rfl)
abbrev Zn1:Shape:={ sl:=[(0,(.ptr 0 [])),(6,(.ptr 1 [])),(98,(.sl 2)),(99,(.hole (.int .i64))),(100,(.hole (.int .i64)))],bl:=[.var (.pr (.pr (.hole y39) (.pr (.sl 3) (.pr (.sl 2) (.pr (.sl 4) (.pr (.sl 5) (.hole y4)))))) (.sl 6)),.var (.hole y5),.row y40,.row y12,.row y15,.row y23,.row y24],ts:=[(.int .i64),(.int .i64),y39,y4,y5,y41,y18,y19,y26,y27],pin:=1 }
abbrev Zlf:List (ETag × Shape):=[(.exit 1,{ sl:=[],bl:=bl_2,ts:=ts_11,pin:=1 })]
def Zbb (x:(Int × Int × T47 × (Int × Int) × T7 × List T43 × List (T17) × List (T18) × List T29 × List (T20))):Option ((Int × Int × T47 × (Int × Int) × T7 × List T43 × List (T17) × List (T18) × List T29 × List (T20)) ⊕ (T57)) :=
 bif (decide (x.2.1 < x.1)) then
 bif (inb x.2.1 (List.length x.2.2.2.2.2.1)) then
 (Z2 ((getAt ((0:Int),false,((0:Int),(0:Int),([]:List Int),(0:Int)),(0:Int),(0:Int),([]:List T7),([]:List T7)) x.2.2.2.2.2.1 (toN x.2.1)),x.2.2.2.2.1.1)).bind fun r22 =>
 bif (inb x.2.1 (List.length x.2.2.2.2.2.1)) then
 some (.inl (x.1,(IntKind.wrap .i64 (x.2.1+(1:Int))),x.2.2.1,x.2.2.2.1,x.2.2.2.2.1,(List.set x.2.2.2.2.2.1 (toN x.2.1) r22.1),x.2.2.2.2.2.2.1,x.2.2.2.2.2.2.2.1,x.2.2.2.2.2.2.2.2.1,x.2.2.2.2.2.2.2.2.2))
 else
 none
 else
 none
 else
 some (.inr (x.2.2.1,x.2.2.2.1,x.2.2.2.2.2.2.1,x.2.2.2.2.2.1,x.2.2.2.2.2.2.2.1,x.2.2.2.2.2.2.2.2.1,x.2.2.2.2.2.2.2.2.2))
def Zfe:Ctx:={ tb:=mkTb T2.tbl,fx:=[(78,[],Z108),(40,[],Z10p),(120,[],Z106),(168,[],Zz7)],sum:=[],nt:=120,pin:=1,nr:=true,ys:=[] }
theorem Zbc:CSound Tryz.prog ⟨120,1,true⟩ (.loop (loopOf 13 Tryz.f123)) (Yay Zn1 Zlf (loop Zbb)) :=
 Y8c (C:=Zfe) (ctxOK mixed tbl_ok rfl ⟨Z27,Z36,Z23,Z3,trivial⟩ trivial) (SumOK.of trivial) Zn1 Zlf rfl rfl Zbb (fun x=>by kernel_rfl)
abbrev Zpe:Shape:={ sl:=[(0,(.ptr 0 [])),(1,(.hole y5)),(2,(.hole (.int .i64))),(3,(.hole (.int .i64))),(4,(.hole (.int .i64)))],bl:=bl_2,ts:=[y5,(.int .i64),(.int .i64),(.int .i64),y39,y4,y18,y41,y19,y26,y27],pin:=0 }
abbrev Zur:Shape:={ sl:=[],bl:=bl_2,ts:=ts_11,pin:=1 }
def Z1y (x:(T7 × Int × Int × Int × T47 × (Int × Int) × List (T17) × List T43 × List (T18) × List T29 × List (T20))):Option T57 :=
 (Z26 (x.1.1,x.2.2.2.2.1,x.2.2.2.2.2.1,x.2.2.2.2.2.2.1,x.2.2.2.2.2.2.2.1,x.2.2.2.2.2.2.2.2.1,x.2.2.2.2.2.2.2.2.2.1,x.2.2.2.2.2.2.2.2.2.2)).bind fun r18 =>
 bif (r18.1.1 == (1:Int)) then
 (Z35 (x.1.1,(3:Int),x.2.1,x.2.2.1,x.1.2.2,r18.2.1,r18.2.2.1,r18.2.2.2.1,r18.2.2.2.2.1,r18.2.2.2.2.2.1,r18.2.2.2.2.2.2.1,r18.2.2.2.2.2.2.2)).bind fun r19 =>
 (Z22 (x.1.1,r19.2.1,r19.2.2.1,r19.2.2.2.1,r19.2.2.2.2.1,r19.2.2.2.2.2.1,r19.2.2.2.2.2.2.1,r19.2.2.2.2.2.2.2)).bind fun r20 =>
 (loop Zbb ((((List.length r20.2.2.2.1):Nat):Int),(0:Int),r20.1,r20.2.1,x.1,r20.2.2.2.1,r20.2.2.1,r20.2.2.2.2.1,r20.2.2.2.2.2.1,r20.2.2.2.2.2.2)).bind fun r21 =>
 some (r21.1,r21.2.1,r21.2.2.1,r21.2.2.2.1,r21.2.2.2.2.1,r21.2.2.2.2.2.1,r21.2.2.2.2.2.2)
 else
 bif (r18.1.1 == (4:Int)) then
 bif (inb r18.1.2.1 (List.length r18.2.1.2.2.2.2.1)) then
 bif (inb x.1.2.1 (List.length (getAt (([]:List T0),false) r18.2.1.2.2.2.2.1 (toN r18.1.2.1)).1)) then
 bif (getAt (false,(0:Int)) (getAt (([]:List T0),false) r18.2.1.2.2.2.2.1 (toN r18.1.2.1)).1 (toN x.1.2.1)).1 then
 (Z35 (x.1.1,(3:Int),x.2.1,x.2.2.1,x.1.2.2,r18.2.1,r18.2.2.1,r18.2.2.2.1,r18.2.2.2.2.1,r18.2.2.2.2.2.1,r18.2.2.2.2.2.2.1,r18.2.2.2.2.2.2.2)).bind fun r19 =>
 (Z22 (x.1.1,r19.2.1,r19.2.2.1,r19.2.2.2.1,r19.2.2.2.2.1,r19.2.2.2.2.2.1,r19.2.2.2.2.2.2.1,r19.2.2.2.2.2.2.2)).bind fun r20 =>
 (loop Zbb ((((List.length r20.2.2.2.1):Nat):Int),(0:Int),r20.1,r20.2.1,x.1,r20.2.2.2.1,r20.2.2.1,r20.2.2.2.2.1,r20.2.2.2.2.2.1,r20.2.2.2.2.2.2)).bind fun r21 =>
 some (r21.1,r21.2.1,r21.2.2.1,r21.2.2.2.1,r21.2.2.2.2.1,r21.2.2.2.2.2.1,r21.2.2.2.2.2.2)
 else
 bif (x.2.2.2.1 == (2:Int)) then
 (Z35 (x.1.1,(6:Int),x.2.1,(0:Int),x.1.2.2,r18.2.1,r18.2.2.1,r18.2.2.2.1,r18.2.2.2.2.1,r18.2.2.2.2.2.1,r18.2.2.2.2.2.2.1,r18.2.2.2.2.2.2.2)).bind fun r19 =>
 bif (inb x.1.1 (List.length r19.2.2.2.1)) then
 (Z22 (x.1.1,r19.2.1,r19.2.2.1,(List.set r19.2.2.2.1 (toN x.1.1) ((getAt ((0:Int),(0:Int),(0:Int),false) r19.2.2.2.1 (toN x.1.1)).1,(getAt ((0:Int),(0:Int),(0:Int),false) r19.2.2.2.1 (toN x.1.1)).2.1,(getAt ((0:Int),(0:Int),(0:Int),false) r19.2.2.2.1 (toN x.1.1)).2.2.1,true)),r19.2.2.2.2.1,r19.2.2.2.2.2.1,r19.2.2.2.2.2.2.1,r19.2.2.2.2.2.2.2)).bind fun r20 =>
 (loop Zbb ((((List.length r20.2.2.2.1):Nat):Int),(0:Int),r20.1,r20.2.1,x.1,r20.2.2.2.1,r20.2.2.1,r20.2.2.2.2.1,r20.2.2.2.2.2.1,r20.2.2.2.2.2.2)).bind fun r21 =>
 some (r21.1,r21.2.1,r21.2.2.1,r21.2.2.2.1,r21.2.2.2.2.1,r21.2.2.2.2.2.1,r21.2.2.2.2.2.2)
 else
 none
 else
 (Z35 (x.1.1,(5:Int),x.2.1,x.2.2.1,x.1.2.2,r18.2.1,r18.2.2.1,r18.2.2.2.1,r18.2.2.2.2.1,r18.2.2.2.2.2.1,r18.2.2.2.2.2.2.1,r18.2.2.2.2.2.2.2)).bind fun r19 =>
 bif (inb x.1.1 (List.length r19.2.2.2.1)) then
 (Z22 (x.1.1,r19.2.1,r19.2.2.1,(List.set r19.2.2.2.1 (toN x.1.1) ((getAt ((0:Int),(0:Int),(0:Int),false) r19.2.2.2.1 (toN x.1.1)).1,(getAt ((0:Int),(0:Int),(0:Int),false) r19.2.2.2.1 (toN x.1.1)).2.1,(getAt ((0:Int),(0:Int),(0:Int),false) r19.2.2.2.1 (toN x.1.1)).2.2.1,false)),r19.2.2.2.2.1,r19.2.2.2.2.2.1,r19.2.2.2.2.2.2.1,r19.2.2.2.2.2.2.2)).bind fun r20 =>
 (loop Zbb ((((List.length r20.2.2.2.1):Nat):Int),(0:Int),r20.1,r20.2.1,x.1,r20.2.2.2.1,r20.2.2.1,r20.2.2.2.2.1,r20.2.2.2.2.2.1,r20.2.2.2.2.2.2)).bind fun r21 =>
 some (r21.1,r21.2.1,r21.2.2.1,r21.2.2.2.1,r21.2.2.2.2.1,r21.2.2.2.2.2.1,r21.2.2.2.2.2.2)
 else
 none
 else
 none
 else
 none
 else
 bif (x.2.2.2.1 == (2:Int)) then
 (Z35 (x.1.1,(6:Int),x.2.1,(0:Int),x.1.2.2,r18.2.1,r18.2.2.1,r18.2.2.2.1,r18.2.2.2.2.1,r18.2.2.2.2.2.1,r18.2.2.2.2.2.2.1,r18.2.2.2.2.2.2.2)).bind fun r19 =>
 bif (inb x.1.1 (List.length r19.2.2.2.1)) then
 (Z22 (x.1.1,r19.2.1,r19.2.2.1,(List.set r19.2.2.2.1 (toN x.1.1) ((getAt ((0:Int),(0:Int),(0:Int),false) r19.2.2.2.1 (toN x.1.1)).1,(getAt ((0:Int),(0:Int),(0:Int),false) r19.2.2.2.1 (toN x.1.1)).2.1,(getAt ((0:Int),(0:Int),(0:Int),false) r19.2.2.2.1 (toN x.1.1)).2.2.1,true)),r19.2.2.2.2.1,r19.2.2.2.2.2.1,r19.2.2.2.2.2.2.1,r19.2.2.2.2.2.2.2)).bind fun r20 =>
 (loop Zbb ((((List.length r20.2.2.2.1):Nat):Int),(0:Int),r20.1,r20.2.1,x.1,r20.2.2.2.1,r20.2.2.1,r20.2.2.2.2.1,r20.2.2.2.2.2.1,r20.2.2.2.2.2.2)).bind fun r21 =>
 some (r21.1,r21.2.1,r21.2.2.1,r21.2.2.2.1,r21.2.2.2.2.1,r21.2.2.2.2.2.1,r21.2.2.2.2.2.2)
 else
 none
 else
 (Z35 (x.1.1,(5:Int),x.2.1,x.2.2.1,x.1.2.2,r18.2.1,r18.2.2.1,r18.2.2.2.1,r18.2.2.2.2.1,r18.2.2.2.2.2.1,r18.2.2.2.2.2.2.1,r18.2.2.2.2.2.2.2)).bind fun r19 =>
 bif (inb x.1.1 (List.length r19.2.2.2.1)) then
 (Z22 (x.1.1,r19.2.1,r19.2.2.1,(List.set r19.2.2.2.1 (toN x.1.1) ((getAt ((0:Int),(0:Int),(0:Int),false) r19.2.2.2.1 (toN x.1.1)).1,(getAt ((0:Int),(0:Int),(0:Int),false) r19.2.2.2.1 (toN x.1.1)).2.1,(getAt ((0:Int),(0:Int),(0:Int),false) r19.2.2.2.1 (toN x.1.1)).2.2.1,false)),r19.2.2.2.2.1,r19.2.2.2.2.2.1,r19.2.2.2.2.2.2.1,r19.2.2.2.2.2.2.2)).bind fun r20 =>
 (loop Zbb ((((List.length r20.2.2.2.1):Nat):Int),(0:Int),r20.1,r20.2.1,x.1,r20.2.2.2.1,r20.2.2.1,r20.2.2.2.2.1,r20.2.2.2.2.2.1,r20.2.2.2.2.2.2)).bind fun r21 =>
 some (r21.1,r21.2.1,r21.2.2.1,r21.2.2.2.1,r21.2.2.2.2.1,r21.2.2.2.2.2.1,r21.2.2.2.2.2.2)
 else
 none
abbrev Z104:=Spec.shp Zpe Zur Z1y
def Zfd:Ctx:={ tb:=mkTb T2.tbl,fx:=[(78,[],Z108),(40,[],Z10p),(120,[],Z106),(168,[],Zz7)],sum:=[(0,13,Yay Zn1 Zlf (loop Zbb))],nt:=120,pin:=1,nr:=true,ys:=[] }
theorem Z1z:Sound Tryz.prog 123 (Z104) :=
 Sound.shp (C:=Zfd) (fn:=Tryz.f123) (by kernel_rfl) (c:=bodyOf Tryz.f123) (by kernel_rfl) (by decide) (ctxOK mixed tbl_ok rfl ⟨Z27,Z36,Z23,Z3,trivial⟩ trivial) (SumOK.of ⟨(Yb0 (d:=.loop (loopOf 13 Tryz.f123)) (by kernel_rfl) Zbc),trivial⟩) (by kernel_rfl) Zpe Zur rfl (by decide) (by decide) rfl (by decide) rfl Z1y (fun x=>by kernel_rfl)
abbrev Zpp:Shape:={ sl:=sl_29,bl:=bl_2,ts:=[y5,(.int .i64),.bool,y39,y4,y18,y41,y19,y26,y27],pin:=0 }
abbrev Zv2:Shape:={ sl:=[],bl:=bl_2,ts:=ts_11,pin:=1 }
def Z2k (x:(T7 × Int × Bool × T47 × (Int × Int) × List (T17) × List T43 × List (T18) × List T29 × List (T20))):Option T57 :=
 (Z2g (x.1,x.2.1,x.2.2.1,x.2.2.2.1,x.2.2.2.2.1,x.2.2.2.2.2.1,x.2.2.2.2.2.2.1,x.2.2.2.2.2.2.2.1,x.2.2.2.2.2.2.2.2.1,x.2.2.2.2.2.2.2.2.2)).bind fun r16 =>
 bif (r16.1.1 == (0:Int)) then
 (Z39 (x.1.1,r16.2.1,r16.2.2.1,r16.2.2.2.1,r16.2.2.2.2.1,r16.2.2.2.2.2.1,r16.2.2.2.2.2.2.1,r16.2.2.2.2.2.2.2)).bind fun r17 =>
 some (r17.1,r17.2.1,r17.2.2.1,r17.2.2.2.1,r17.2.2.2.2.1,r17.2.2.2.2.2.1,r17.2.2.2.2.2.2)
 else
 bif (r16.1.1 == (3:Int)) then
 some (r16.2.1,(r16.2.2.1.1,(3:Int)),r16.2.2.2.1,r16.2.2.2.2.1,r16.2.2.2.2.2.1,r16.2.2.2.2.2.2.1,r16.2.2.2.2.2.2.2)
 else
 bif (r16.1.2.2.1.1 != (Int.negSucc 0)) then
 (Z1y (r16.1.2.2.1,x.2.1,r16.1.2.2.2,(1:Int),r16.2.1,r16.2.2.1,r16.2.2.2.1,r16.2.2.2.2.1,r16.2.2.2.2.2.1,r16.2.2.2.2.2.2.1,r16.2.2.2.2.2.2.2)).bind fun r17 =>
 (Z1y (x.1,x.2.1,r16.1.2.1,r16.1.1,r17.1,r17.2.1,r17.2.2.1,r17.2.2.2.1,r17.2.2.2.2.1,r17.2.2.2.2.2.1,r17.2.2.2.2.2.2)).bind fun r18 =>
 some (r18.1,r18.2.1,r18.2.2.1,r18.2.2.2.1,r18.2.2.2.2.1,r18.2.2.2.2.2.1,r18.2.2.2.2.2.2)
 else
 (Z1y (x.1,x.2.1,r16.1.2.1,r16.1.1,r16.2.1,r16.2.2.1,r16.2.2.2.1,r16.2.2.2.2.1,r16.2.2.2.2.2.1,r16.2.2.2.2.2.2.1,r16.2.2.2.2.2.2.2)).bind fun r17 =>
 some (r17.1,r17.2.1,r17.2.2.1,r17.2.2.2.1,r17.2.2.2.2.1,r17.2.2.2.2.2.1,r17.2.2.2.2.2.2)
abbrev Z10f:=Spec.shp Zpp Zv2 Z2k
def Zfq:Ctx:={ tb:=mkTb T2.tbl,fx:=[(124,[],Z10d),(125,[],Z10r),(123,[],Z104)],sum:=[],nt:=47,pin:=1,nr:=true,ys:=[] }
theorem Z2l:Sound Tryz.prog 121 (Z10f) :=
 Sound.shp (C:=Zfq) (fn:=Tryz.f121) (by kernel_rfl) (c:=bodyOf Tryz.f121) (by kernel_rfl) (by decide) (ctxOK mixed tbl_ok rfl ⟨Z2h,Z3a,Z1z,trivial⟩ trivial) (SumOK.of trivial) (by kernel_rfl) Zpp Zv2 rfl (by decide) (by decide) rfl (by decide) rfl Z2k (fun x=>by kernel_rfl)
abbrev Zpt:Shape:={ sl:=sl_26,bl:=bl_2,ts:=ts_14,pin:=0 }
abbrev Zv6:Shape:={ sl:=[],bl:=bl_2,ts:=ts_11,pin:=1 }
def Z2s (x:T60):Option T57 :=
 (Z35 (x.1.1,(2:Int),x.2.1.2.1,(0:Int),(Int.negSucc 0),x.2.2.1,x.2.2.2.1,x.2.2.2.2.1,x.2.2.2.2.2.1,x.2.2.2.2.2.2.1,x.2.2.2.2.2.2.2.1,x.2.2.2.2.2.2.2.2)).bind fun r14 =>
 (Z2k ((x.1.1,(0:Int),r14.1),x.2.1.2.1,true,r14.2.1,r14.2.2.1,r14.2.2.2.1,r14.2.2.2.2.1,r14.2.2.2.2.2.1,r14.2.2.2.2.2.2.1,r14.2.2.2.2.2.2.2)).bind fun r15 =>
 some (r15.1,r15.2.1,r15.2.2.1,r15.2.2.2.1,r15.2.2.2.2.1,r15.2.2.2.2.2.1,r15.2.2.2.2.2.2)
abbrev Z10j:=Spec.shp Zpt Zv6 Z2s
def Zfv:Ctx:={ tb:=mkTb T2.tbl,fx:=[(40,[],Z10p),(121,[],Z10f)],sum:=[],nt:=21,pin:=1,nr:=true,ys:=[] }
theorem Z2t:Sound Tryz.prog 65 (Z10j) :=
 Sound.shp (C:=Zfv) (fn:=Tryz.f65) (by kernel_rfl) (c:=bodyOf Tryz.f65) (by kernel_rfl) (by decide) (ctxOK mixed tbl_ok rfl ⟨Z36,Z2l,trivial⟩ trivial) (SumOK.of trivial) (by kernel_rfl) Zpt Zv6 rfl (by decide) (by decide) rfl (by decide) rfl Z2s (fun x=>by kernel_rfl)
abbrev Zpr:Shape:={ sl:=sl_26,bl:=bl_2,ts:=ts_14,pin:=0 }
abbrev Zv4:Shape:={ sl:=[],bl:=bl_2,ts:=ts_11,pin:=1 }
def Z2o (x:T60):Option T57 :=
 (Z35 (x.1.1,(4:Int),x.2.1.2.1,(0:Int),(Int.negSucc 0),x.2.2.1,x.2.2.2.1,x.2.2.2.2.1,x.2.2.2.2.2.1,x.2.2.2.2.2.2.1,x.2.2.2.2.2.2.2.1,x.2.2.2.2.2.2.2.2)).bind fun r14 =>
 (Z2k ((x.1.1,(0:Int),r14.1),x.2.1.2.1,false,r14.2.1,r14.2.2.1,r14.2.2.2.1,r14.2.2.2.2.1,r14.2.2.2.2.2.1,r14.2.2.2.2.2.2.1,r14.2.2.2.2.2.2.2)).bind fun r15 =>
 some (r15.1,r15.2.1,r15.2.2.1,r15.2.2.2.1,r15.2.2.2.2.1,r15.2.2.2.2.2.1,r15.2.2.2.2.2.2)
abbrev Z10h:=Spec.shp Zpr Zv4 Z2o
def Zfs:Ctx:={ tb:=mkTb T2.tbl,fx:=[(40,[],Z10p),(121,[],Z10f)],sum:=[],nt:=21,pin:=1,nr:=true,ys:=[] }
theorem Z2p:Sound Tryz.prog 66 (Z10h) :=
 Sound.shp (C:=Zfs) (fn:=Tryz.f66) (by kernel_rfl) (c:=bodyOf Tryz.f66) (by kernel_rfl) (by decide) (ctxOK mixed tbl_ok rfl ⟨Z36,Z2l,trivial⟩ trivial) (SumOK.of trivial) (by kernel_rfl) Zpr Zv4 rfl (by decide) (by decide) rfl (by decide) rfl Z2o (fun x=>by kernel_rfl)
abbrev Zog:Shape:={ sl:=[(0,(.hole y40))],bl:=[],ts:=[y40],pin:=0 }
abbrev Ztt:Shape:={ sl:=[(0,(.hole y40)),(1,(.hole (.slice y5))),(2,(.hole .bool)),(3,(.hole (.int .i64)))],bl:=[],ts:=[y40,(.slice y5),.bool,(.int .i64)],pin:=0 }
def Z0 (x:T43):Option ((Int × T40) × List (T7) × Bool × Int) :=
 (Za x).bind fun r15 =>
 bif (Bool.not r15) then
 some (((0:Int),false,((0:Int),(0:Int),([]:List Int),(0:Int)),(0:Int),(0:Int),([]:List T7),([]:List T7)),([]:List T7),false,(1:Int))
 else
 bif (decide (x.1 < (0:Int))) then
 some (x,([]:List T7),true,(0:Int))
 else
 bif x.2.1 then
 some (x,([]:List T7),true,(0:Int))
 else
 bif (decide ((((List.length x.2.2.2.2.2.1):Nat):Int) > (0:Int))) then
 some (x,([]:List T7),true,(0:Int))
 else
 some ((x.1,true,x.2.2.1,x.2.2.2.1,x.2.2.2.2.1,x.2.2.2.2.2.1,([]:List T7)),x.2.2.2.2.2.2,false,(0:Int))
abbrev Zz6:=Spec.shp Zog Ztt Z0
def Ze8:Ctx:={ tb:=mkTb T2.tbl,fx:=[(112,[],Zzb)],sum:=[],nt:=31,pin:=0,nr:=true,ys:=[] }
theorem Z1:Sound Tryz.prog 122 (Zz6) :=
 Sound.shp (C:=Ze8) (fn:=Tryz.f122) (by kernel_rfl) (c:=bodyOf Tryz.f122) (by kernel_rfl) (by decide) (ctxOK mixed tbl_ok rfl ⟨Zb,trivial⟩ trivial) (SumOK.of trivial) (by kernel_rfl) Zog Ztt rfl (by decide) (by decide) rfl (by decide) rfl Z0 (fun x=>by kernel_rfl)
abbrev Zn4:Shape:={ sl:=[(0,(.ptr 0 [])),(5,(.ptr 1 [])),(10,(.mp 2)),(53,(.hole (.slice y5))),(54,(.hole (.int .i64))),(55,(.hole (.int .i64)))],bl:=[.var (.pr (.pr (.hole y39) (.pr (.sl 3) (.pr (.sl 4) (.pr (.sl 5) (.pr (.sl 6) (.hole y4)))))) (.sl 7)),.var (.hole y5),.mp (.int .i64) (.int .i64),.row y12,.row y40,.row y15,.row y23,.row y24],ts:=[(.slice y5),(.int .i64),(.int .i64),y39,y4,y5,(.slice y4),y18,y41,y19,y26,y27],pin:=1 }
abbrev Zli:List (ETag × Shape):=[(.exit 0,{ sl:=[],bl:=bl_2,ts:=ts_11,pin:=1 })]
def Zbh (x:(List (T7) × Int × Int × T47 × (Int × Int) × T7 × List (Int × Int) × List (T17) × List T43 × List (T18) × List T29 × List (T20))):Option ((List (T7) × Int × Int × T47 × (Int × Int) × T7 × List (Int × Int) × List (T17) × List T43 × List (T18) × List T29 × List (T20)) ⊕ (T57)) :=
 bif (decide (x.2.2.1 < x.2.1)) then
 bif (inb x.2.2.1 (List.length x.1)) then
 bif ((@mlook (Int) (Int) (Ty.beq (.int .i64)) (Ty.zero (.int .i64)) (getAt ((0:Int),(0:Int),(0:Int)) x.1 (toN x.2.2.1)).1 (@mput (Int) (Int) (Ty.beq (.int .i64)) (getAt ((0:Int),(0:Int),(0:Int)) x.1 (toN x.2.2.1)).1 (IntKind.wrap .i64 ((@mlook (Int) (Int) (Ty.beq (.int .i64)) (Ty.zero (.int .i64)) (getAt ((0:Int),(0:Int),(0:Int)) x.1 (toN x.2.2.1)).1 x.2.2.2.2.2.2.1)+(1:Int))) x.2.2.2.2.2.2.1)) == (1:Int)) then
 (Z1y ((getAt ((0:Int),(0:Int),(0:Int)) x.1 (toN x.2.2.1)),x.2.2.2.2.2.1.2.1,(0:Int),(2:Int),x.2.2.2.1,x.2.2.2.2.1,x.2.2.2.2.2.2.2.1,x.2.2.2.2.2.2.2.2.1,x.2.2.2.2.2.2.2.2.2.1,x.2.2.2.2.2.2.2.2.2.2.1,x.2.2.2.2.2.2.2.2.2.2.2)).bind fun r18 =>
 some (.inl (x.1,x.2.1,(IntKind.wrap .i64 (x.2.2.1+(1:Int))),r18.1,r18.2.1,x.2.2.2.2.2.1,(@mput (Int) (Int) (Ty.beq (.int .i64)) (getAt ((0:Int),(0:Int),(0:Int)) x.1 (toN x.2.2.1)).1 (IntKind.wrap .i64 ((@mlook (Int) (Int) (Ty.beq (.int .i64)) (Ty.zero (.int .i64)) (getAt ((0:Int),(0:Int),(0:Int)) x.1 (toN x.2.2.1)).1 x.2.2.2.2.2.2.1)+(1:Int))) x.2.2.2.2.2.2.1),r18.2.2.1,r18.2.2.2.1,r18.2.2.2.2.1,r18.2.2.2.2.2.1,r18.2.2.2.2.2.2))
 else
 some (.inl (x.1,x.2.1,(IntKind.wrap .i64 (x.2.2.1+(1:Int))),x.2.2.2.1,x.2.2.2.2.1,x.2.2.2.2.2.1,(@mput (Int) (Int) (Ty.beq (.int .i64)) (getAt ((0:Int),(0:Int),(0:Int)) x.1 (toN x.2.2.1)).1 (IntKind.wrap .i64 ((@mlook (Int) (Int) (Ty.beq (.int .i64)) (Ty.zero (.int .i64)) (getAt ((0:Int),(0:Int),(0:Int)) x.1 (toN x.2.2.1)).1 x.2.2.2.2.2.2.1)+(1:Int))) x.2.2.2.2.2.2.1),x.2.2.2.2.2.2.2.1,x.2.2.2.2.2.2.2.2.1,x.2.2.2.2.2.2.2.2.2.1,x.2.2.2.2.2.2.2.2.2.2.1,x.2.2.2.2.2.2.2.2.2.2.2))
 else
 none
 else
 some (.inr (x.2.2.2.1,x.2.2.2.2.1,x.2.2.2.2.2.2.2.1,x.2.2.2.2.2.2.2.2.1,x.2.2.2.2.2.2.2.2.2.1,x.2.2.2.2.2.2.2.2.2.2.1,x.2.2.2.2.2.2.2.2.2.2.2))
def Zg0:Ctx:={ tb:=mkTb T2.tbl,fx:=[(122,[],Zz6),(40,[],Z10p),(120,[],Z106),(123,[],Z104)],sum:=[],nt:=75,pin:=1,nr:=true,ys:=[] }
theorem Zbi:CSound Tryz.prog ⟨75,1,true⟩ (.loop (loopOf 10 Tryz.f67)) (Yay Zn4 Zli (loop Zbh)) :=
 Y8c (C:=Zg0) (ctxOK mixed tbl_ok rfl ⟨Z1,Z36,Z23,Z1z,trivial⟩ trivial) (SumOK.of trivial) Zn4 Zli rfl rfl Zbh (fun x=>by kernel_rfl)
abbrev Zpx:Shape:={ sl:=sl_26,bl:=bl_2,ts:=ts_14,pin:=0 }
abbrev Zva:Shape:={ sl:=[],bl:=bl_2,ts:=ts_11,pin:=1 }
def Z31 (x:T60):Option T57 :=
 bif (inb x.2.1.2.1 (List.length x.2.2.2.2.2.1)) then
 (Z0 (getAt ((0:Int),false,((0:Int),(0:Int),([]:List Int),(0:Int)),(0:Int),(0:Int),([]:List T7),([]:List T7)) x.2.2.2.2.2.1 (toN x.2.1.2.1))).bind fun r14 =>
 bif r14.2.2.1 then
 some (x.2.2.1,(x.2.2.2.1.1,(3:Int)),x.2.2.2.2.1,x.2.2.2.2.2.1,x.2.2.2.2.2.2.1,x.2.2.2.2.2.2.2.1,x.2.2.2.2.2.2.2.2)
 else
 bif (inb x.2.1.2.1 (List.length x.2.2.2.2.2.1)) then
 (Z35 (x.1.1,(7:Int),x.2.1.2.1,(0:Int),(Int.negSucc 0),x.2.2.1,x.2.2.2.1,x.2.2.2.2.1,(List.set x.2.2.2.2.2.1 (toN x.2.1.2.1) r14.1),x.2.2.2.2.2.2.1,x.2.2.2.2.2.2.2.1,x.2.2.2.2.2.2.2.2)).bind fun r15 =>
 (Z22 (x.1.1,r15.2.1,r15.2.2.1,r15.2.2.2.1,r15.2.2.2.2.1,r15.2.2.2.2.2.1,r15.2.2.2.2.2.2.1,r15.2.2.2.2.2.2.2)).bind fun r16 =>
 (loop Zbh (r14.2.1,(((List.length r14.2.1):Nat):Int),(0:Int),r16.1,r16.2.1,x.2.1,([]:List (Int × Int)),r16.2.2.1,r16.2.2.2.1,r16.2.2.2.2.1,r16.2.2.2.2.2.1,r16.2.2.2.2.2.2)).bind fun r17 =>
 some (r17.1,r17.2.1,r17.2.2.1,r17.2.2.2.1,r17.2.2.2.2.1,r17.2.2.2.2.2.1,r17.2.2.2.2.2.2)
 else
 none
 else
 none
abbrev Z10n:=Spec.shp Zpx Zva Z31
def Zfz:Ctx:={ tb:=mkTb T2.tbl,fx:=[(122,[],Zz6),(40,[],Z10p),(120,[],Z106),(123,[],Z104)],sum:=[(0,10,Yay Zn4 Zli (loop Zbh))],nt:=75,pin:=1,nr:=true,ys:=[] }
theorem Z32:Sound Tryz.prog 67 (Z10n) :=
 Sound.shp (C:=Zfz) (fn:=Tryz.f67) (by kernel_rfl) (c:=bodyOf Tryz.f67) (by kernel_rfl) (by decide) (ctxOK mixed tbl_ok rfl ⟨Z1,Z36,Z23,Z1z,trivial⟩ trivial) (SumOK.of ⟨(Yb0 (d:=.loop (loopOf 10 Tryz.f67)) (by kernel_rfl) Zbi),trivial⟩) (by kernel_rfl) Zpx Zva rfl (by decide) (by decide) rfl (by decide) rfl Z31 (fun x=>by kernel_rfl)
abbrev Zn3:Shape:={ sl:=[(0,(.ptr 0 [])),(4,(.ptr 1 [])),(6,(.hole (.int .i64))),(28,(.hole (.slice y2))),(29,(.hole (.int .i64))),(30,(.hole (.int .i64)))],bl:=bl_15,ts:=[(.int .i64),(.slice y2),(.int .i64),(.int .i64),y39,y4,y4,y18,y41,y19,y26,y27],pin:=1 }
abbrev Zlh:List (ETag × Shape):=[(.exit 1,{ sl:=[(0,(.ptr 0 [])),(4,(.ptr 1 []))],bl:=bl_15,ts:=[y39,y4,y4,y18,y41,y19,y26,y27],pin:=1 })]
def Zbf (x:(Int × List T0 × Int × Int × T47 × (Int × Int) × (Int × Int) × List (T17) × List T43 × List (T18) × List T29 × List (T20))):Option ((Int × List T0 × Int × Int × T47 × (Int × Int) × (Int × Int) × List (T17) × List T43 × List (T18) × List T29 × List (T20)) ⊕ (T47 × (Int × Int) × (Int × Int) × List (T17) × List T43 × List (T18) × List T29 × List (T20))) :=
 bif (decide (x.2.2.2.1 < x.2.2.1)) then
 bif (inb x.2.2.2.1 (List.length x.2.1)) then
 (Z2g ((x.2.2.2.2.2.2.1.1,x.2.2.2.1,x.1),(getAt (false,(0:Int)) x.2.1 (toN x.2.2.2.1)).2,(getAt (false,(0:Int)) x.2.1 (toN x.2.2.2.1)).1,x.2.2.2.2.1,x.2.2.2.2.2.1,x.2.2.2.2.2.2.2.1,x.2.2.2.2.2.2.2.2.1,x.2.2.2.2.2.2.2.2.2.1,x.2.2.2.2.2.2.2.2.2.2.1,x.2.2.2.2.2.2.2.2.2.2.2)).bind fun r16 =>
 some (.inl (x.1,x.2.1,x.2.2.1,(IntKind.wrap .i64 (x.2.2.2.1+(1:Int))),r16.2.1,r16.2.2.1,x.2.2.2.2.2.2.1,r16.2.2.2.1,r16.2.2.2.2.1,r16.2.2.2.2.2.1,r16.2.2.2.2.2.2.1,r16.2.2.2.2.2.2.2))
 else
 none
 else
 some (.inr (x.2.2.2.2.1,x.2.2.2.2.2.1,x.2.2.2.2.2.2.1,x.2.2.2.2.2.2.2.1,x.2.2.2.2.2.2.2.2.1,x.2.2.2.2.2.2.2.2.2.1,x.2.2.2.2.2.2.2.2.2.2.1,x.2.2.2.2.2.2.2.2.2.2.2))
def Zfu:Ctx:={ tb:=mkTb T2.tbl,fx:=[(40,[],Z10p),(121,[],Z10f),(120,[],Z106),(124,[],Z10d)],sum:=[],nt:=87,pin:=1,nr:=true,ys:=[] }
theorem Zbg:CSound Tryz.prog ⟨87,1,true⟩ (.loop (loopOf 5 Tryz.f68)) (Yay Zn3 Zlh (loop Zbf)) :=
 Y8c (C:=Zfu) (ctxOK mixed tbl_ok rfl ⟨Z36,Z2l,Z23,Z2h,trivial⟩ trivial) (SumOK.of trivial) Zn3 Zlh rfl rfl Zbf (fun x=>by kernel_rfl)
abbrev Zps:Shape:={ sl:=sl_26,bl:=bl_2,ts:=ts_14,pin:=0 }
abbrev Zv5:Shape:={ sl:=[],bl:=bl_2,ts:=ts_11,pin:=1 }
def Z2q (x:T60):Option T57 :=
 (Z35 (x.1.1,(8:Int),x.2.1.2.1,(0:Int),(Int.negSucc 0),x.2.2.1,x.2.2.2.1,x.2.2.2.2.1,x.2.2.2.2.2.1,x.2.2.2.2.2.2.1,x.2.2.2.2.2.2.2.1,x.2.2.2.2.2.2.2.2)).bind fun r14 =>
 bif (inb x.2.1.2.1 (List.length r14.2.1.2.2.2.2.1)) then
 bif (x.1.2 != (Int.negSucc 0)) then
 bif (inb x.1.2 (List.length (getAt (([]:List T0),false) r14.2.1.2.2.2.2.1 (toN x.2.1.2.1)).1)) then
 (Z2k ((x.1.1,x.1.2,r14.1),(getAt (false,(0:Int)) (getAt (([]:List T0),false) r14.2.1.2.2.2.2.1 (toN x.2.1.2.1)).1 (toN x.1.2)).2,(getAt (false,(0:Int)) (getAt (([]:List T0),false) r14.2.1.2.2.2.2.1 (toN x.2.1.2.1)).1 (toN x.1.2)).1,r14.2.1,r14.2.2.1,r14.2.2.2.1,r14.2.2.2.2.1,r14.2.2.2.2.2.1,r14.2.2.2.2.2.2.1,r14.2.2.2.2.2.2.2)).bind fun r15 =>
 some (r15.1,r15.2.1,r15.2.2.1,r15.2.2.2.1,r15.2.2.2.2.1,r15.2.2.2.2.2.1,r15.2.2.2.2.2.2)
 else
 none
 else
 bif (getAt (([]:List T0),false) r14.2.1.2.2.2.2.1 (toN x.2.1.2.1)).2 then
 (Z35 (x.1.1,(9:Int),x.2.1.2.1,(0:Int),r14.1,r14.2.1,r14.2.2.1,r14.2.2.2.1,r14.2.2.2.2.1,r14.2.2.2.2.2.1,r14.2.2.2.2.2.2.1,r14.2.2.2.2.2.2.2)).bind fun r15 =>
 (Z22 (x.1.1,r15.2.1,r15.2.2.1,r15.2.2.2.1,r15.2.2.2.2.1,r15.2.2.2.2.2.1,r15.2.2.2.2.2.2.1,r15.2.2.2.2.2.2.2)).bind fun r16 =>
 some (r16.1,r16.2.1,r16.2.2.1,r16.2.2.2.1,r16.2.2.2.2.1,r16.2.2.2.2.2.1,r16.2.2.2.2.2.2)
 else
 (loop Zbf (r14.1,(getAt (([]:List T0),false) r14.2.1.2.2.2.2.1 (toN x.2.1.2.1)).1,(((List.length (getAt (([]:List T0),false) r14.2.1.2.2.2.2.1 (toN x.2.1.2.1)).1):Nat):Int),(0:Int),r14.2.1,r14.2.2.1,x.1,r14.2.2.2.1,r14.2.2.2.2.1,r14.2.2.2.2.2.1,r14.2.2.2.2.2.2.1,r14.2.2.2.2.2.2.2)).bind fun r15 =>
 (Z39 (r15.2.2.1.1,r15.1,r15.2.1,r15.2.2.2.1,r15.2.2.2.2.1,r15.2.2.2.2.2.1,r15.2.2.2.2.2.2.1,r15.2.2.2.2.2.2.2)).bind fun r16 =>
 some (r16.1,r16.2.1,r16.2.2.1,r16.2.2.2.1,r16.2.2.2.2.1,r16.2.2.2.2.2.1,r16.2.2.2.2.2.2)
 else
 none
abbrev Z10i:=Spec.shp Zps Zv5 Z2q
def Zft:Ctx:={ tb:=mkTb T2.tbl,fx:=[(40,[],Z10p),(121,[],Z10f),(120,[],Z106),(124,[],Z10d),(125,[],Z10r)],sum:=[(0,5,Yay Zn3 Zlh (loop Zbf))],nt:=87,pin:=1,nr:=true,ys:=[] }
theorem Z2r:Sound Tryz.prog 68 (Z10i) :=
 Sound.shp (C:=Zft) (fn:=Tryz.f68) (by kernel_rfl) (c:=bodyOf Tryz.f68) (by kernel_rfl) (by decide) (ctxOK mixed tbl_ok rfl ⟨Z36,Z2l,Z23,Z2h,Z3a,trivial⟩ trivial) (SumOK.of ⟨(Yb0 (d:=.loop (loopOf 5 Tryz.f68)) (by kernel_rfl) Zbg),trivial⟩) (by kernel_rfl) Zps Zv5 rfl (by decide) (by decide) rfl (by decide) rfl Z2q (fun x=>by kernel_rfl)
abbrev Zoz:Shape:={ sl:=[(0,(.hole (.one (.slice y5))))],bl:=[],ts:=[(.one (.slice y5))],pin:=0 }
abbrev Zuc:Shape:={ sl:=[(0,(.hole y15))],bl:=[],ts:=[y15],pin:=0 }
def Z14 (x:(List (T7))):Option (T18) :=
 some (true,x)
abbrev Zzp:=Spec.shp Zoz Zuc Z14
def Zes:Ctx:={ tb:=mkTb T2.tbl,fx:=[],sum:=[],nt:=6,pin:=0,nr:=true,ys:=[] }
theorem Z15:Sound Tryz.prog 172 (Zzp) :=
 Sound.shp (C:=Zes) (fn:=Tryz.f172) (by kernel_rfl) (c:=bodyOf Tryz.f172) (by kernel_rfl) (by decide) (ctxOK mixed tbl_ok rfl trivial trivial) (SumOK.of trivial) (by kernel_rfl) Zoz Zuc rfl (by decide) (by decide) rfl (by decide) rfl Z14 (fun x=>by kernel_rfl)
abbrev Zoy:Shape:={ sl:=[(0,(.hole y15)),(1,(.hole y5))],bl:=[],ts:=[y15,y5],pin:=0 }
abbrev Zub:Shape:={ sl:=[(0,(.hole y15)),(1,(.hole .bool)),(2,(.hole (.int .i64)))],bl:=[],ts:=[y15,.bool,(.int .i64)],pin:=0 }
def Z12 (x:(T18 × T7)):Option (T18 × Bool × Int) :=
 (Zan (x.1.2,x.2)).bind fun r16 =>
 (Z10 x.1).bind fun r17 =>
 bif (Bool.not r17) then
 some ((false,([]:List T7)),false,(1:Int))
 else
 bif (r16.2 == (1:Int)) then
 some ((false,([]:List T7)),false,(1:Int))
 else
 bif (Bool.not x.1.1) then
 (Z14 ([]:List T7)).bind fun r18 =>
 some (r18,true,(0:Int))
 else
 bif (r16.2 != (0:Int)) then
 some ((false,([]:List T7)),false,r16.2)
 else
 (Z14 r16.1).bind fun r18 =>
 some (r18,false,(0:Int))
abbrev Zzo:=Spec.shp Zoy Zub Z12
def Zer:Ctx:={ tb:=mkTb T2.tbl,fx:=[(171,[],Z14d),(117,[],Zzn),(172,[],Zzp)],sum:=[],nt:=39,pin:=0,nr:=true,ys:=[] }
theorem Z13:Sound Tryz.prog 126 (Zzo) :=
 Sound.shp (C:=Zer) (fn:=Tryz.f126) (by kernel_rfl) (c:=bodyOf Tryz.f126) (by kernel_rfl) (by decide) (ctxOK mixed tbl_ok rfl ⟨Zao,Z11,Z15,trivial⟩ trivial) (SumOK.of trivial) (by kernel_rfl) Zoy Zub rfl (by decide) (by decide) rfl (by decide) rfl Z12 (fun x=>by kernel_rfl)
abbrev Zpl:Shape:={ sl:=[(0,(.ptr 0 [])),(1,(.hole (.int .i64))),(2,(.hole (.int .i64))),(3,(.hole (.int .i64)))],bl:=bl_2,ts:=[(.int .i64),(.int .i64),(.int .i64),y39,y4,y18,y41,y19,y26,y27],pin:=0 }
abbrev Zuy:Shape:={ sl:=[],bl:=bl_2,ts:=ts_11,pin:=1 }
def Z2c (x:(Int × Int × Int × T47 × (Int × Int) × List (T17) × List T43 × List (T18) × List T29 × List (T20))):Option T57 :=
 (Z35 (x.1,(11:Int),x.2.1,(0:Int),x.2.2.1,x.2.2.2.1,x.2.2.2.2.1,x.2.2.2.2.2.1,x.2.2.2.2.2.2.1,x.2.2.2.2.2.2.2.1,x.2.2.2.2.2.2.2.2.1,x.2.2.2.2.2.2.2.2.2)).bind fun r17 =>
 (Z22 (x.1,r17.2.1,r17.2.2.1,r17.2.2.2.1,r17.2.2.2.2.1,r17.2.2.2.2.2.1,r17.2.2.2.2.2.2.1,r17.2.2.2.2.2.2.2)).bind fun r18 =>
 some (r18.1,r18.2.1,r18.2.2.1,r18.2.2.2.1,r18.2.2.2.2.1,r18.2.2.2.2.2.1,r18.2.2.2.2.2.2)
abbrev Z10b:=Spec.shp Zpl Zuy Z2c
def Zfm:Ctx:={ tb:=mkTb T2.tbl,fx:=[(40,[],Z10p),(120,[],Z106)],sum:=[],nt:=16,pin:=1,nr:=true,ys:=[] }
theorem Z2d:Sound Tryz.prog 127 (Z10b) :=
 Sound.shp (C:=Zfm) (fn:=Tryz.f127) (by kernel_rfl) (c:=bodyOf Tryz.f127) (by kernel_rfl) (by decide) (ctxOK mixed tbl_ok rfl ⟨Z36,Z23,trivial⟩ trivial) (SumOK.of trivial) (by kernel_rfl) Zpl Zuy rfl (by decide) (by decide) rfl (by decide) rfl Z2c (fun x=>by kernel_rfl)
abbrev Zpk:Shape:={ sl:=sl_26,bl:=bl_2,ts:=ts_14,pin:=0 }
abbrev Zux:Shape:={ sl:=[],bl:=bl_2,ts:=ts_11,pin:=1 }
def Z2a (x:T60):Option T57 :=
 (Z35 (x.1.1,(10:Int),x.2.1.2.1,(0:Int),(Int.negSucc 0),x.2.2.1,x.2.2.2.1,x.2.2.2.2.1,x.2.2.2.2.2.1,x.2.2.2.2.2.2.1,x.2.2.2.2.2.2.2.1,x.2.2.2.2.2.2.2.2)).bind fun r14 =>
 bif (inb x.2.1.2.1 (List.length r14.2.2.2.2.2.1)) then
 (Z12 ((getAt (false,([]:List T7)) r14.2.2.2.2.2.1 (toN x.2.1.2.1)),x.1.1,(0:Int),r14.1)).bind fun r15 =>
 bif (inb x.2.1.2.1 (List.length r14.2.2.2.2.2.1)) then
 bif (Bool.not r15.2.1) then
 (Z39 (x.1.1,r14.2.1,r14.2.2.1,r14.2.2.2.1,r14.2.2.2.2.1,(List.set r14.2.2.2.2.2.1 (toN x.2.1.2.1) r15.1),r14.2.2.2.2.2.2.1,r14.2.2.2.2.2.2.2)).bind fun r16 =>
 some (r16.1,r16.2.1,r16.2.2.1,r16.2.2.2.1,r16.2.2.2.2.1,r16.2.2.2.2.2.1,r16.2.2.2.2.2.2)
 else
 (Z2c (x.1.1,x.2.1.2.1,r14.1,r14.2.1,r14.2.2.1,r14.2.2.2.1,r14.2.2.2.2.1,(List.set r14.2.2.2.2.2.1 (toN x.2.1.2.1) r15.1),r14.2.2.2.2.2.2.1,r14.2.2.2.2.2.2.2)).bind fun r16 =>
 some (r16.1,r16.2.1,r16.2.2.1,r16.2.2.2.1,r16.2.2.2.2.1,r16.2.2.2.2.2.1,r16.2.2.2.2.2.2)
 else
 none
 else
 none
abbrev Z10a:=Spec.shp Zpk Zux Z2a
def Zfl:Ctx:={ tb:=mkTb T2.tbl,fx:=[(40,[],Z10p),(126,[],Zzo),(125,[],Z10r),(127,[],Z10b)],sum:=[],nt:=56,pin:=1,nr:=true,ys:=[] }
theorem Z2b:Sound Tryz.prog 69 (Z10a) :=
 Sound.shp (C:=Zfl) (fn:=Tryz.f69) (by kernel_rfl) (c:=bodyOf Tryz.f69) (by kernel_rfl) (by decide) (ctxOK mixed tbl_ok rfl ⟨Z36,Z13,Z3a,Z2d,trivial⟩ trivial) (SumOK.of trivial) (by kernel_rfl) Zpk Zux rfl (by decide) (by decide) rfl (by decide) rfl Z2a (fun x=>by kernel_rfl)
abbrev Zow:Shape:={ sl:=[(0,(.hole y15))],bl:=[],ts:=[y15],pin:=0 }
abbrev Zu9:Shape:={ sl:=[(0,(.hole y15)),(1,(.hole y5)),(2,(.hole .bool)),(3,(.hole (.int .i64)))],bl:=[],ts:=[y15,y5,.bool,(.int .i64)],pin:=0 }
def Zy (x:(T18)):Option (T18 × T7 × Bool × Int) :=
 (Z10 x).bind fun r15 =>
 bif (Bool.not r15) then
 some ((false,([]:List T7)),((0:Int),(0:Int),(0:Int)),false,(1:Int))
 else
 bif (Bool.not x.1) then
 some ((false,([]:List T7)),((0:Int),(0:Int),(0:Int)),false,(6:Int))
 else
 bif ((((List.length x.2):Nat):Int) == (0:Int)) then
 some ((false,([]:List T7)),((0:Int),(0:Int),(0:Int)),false,(0:Int))
 else
 bif (sub3 (1:Int) (((List.length x.2):Nat):Int) (List.length x.2)) then
 (Z14 (cut x.2 (toN (1:Int)) ((toN (((List.length x.2):Nat):Int)) - (toN (1:Int))))).bind fun r16 =>
 bif (inb (0:Int) (List.length x.2)) then
 some (r16,(getAt ((0:Int),(0:Int),(0:Int)) x.2 (toN (0:Int))),true,(0:Int))
 else
 none
 else
 none
abbrev Zzm:=Spec.shp Zow Zu9 Zy
def Zep:Ctx:={ tb:=mkTb T2.tbl,fx:=[(117,[],Zzn),(172,[],Zzp)],sum:=[],nt:=34,pin:=0,nr:=true,ys:=[] }
theorem Zz:Sound Tryz.prog 128 (Zzm) :=
 Sound.shp (C:=Zep) (fn:=Tryz.f128) (by kernel_rfl) (c:=bodyOf Tryz.f128) (by kernel_rfl) (by decide) (ctxOK mixed tbl_ok rfl ⟨Z11,Z15,trivial⟩ trivial) (SumOK.of trivial) (by kernel_rfl) Zow Zu9 rfl (by decide) (by decide) rfl (by decide) rfl Zy (fun x=>by kernel_rfl)
abbrev Zq0:Shape:={ sl:=sl_26,bl:=bl_2,ts:=ts_14,pin:=0 }
abbrev Zvd:Shape:={ sl:=[],bl:=bl_2,ts:=ts_11,pin:=1 }
def Z37 (x:T60):Option T57 :=
 bif (inb x.2.1.2.1 (List.length x.2.2.2.2.2.2.1)) then
 (Zy (getAt (false,([]:List T7)) x.2.2.2.2.2.2.1 (toN x.2.1.2.1))).bind fun r14 =>
 bif (r14.2.2.2 != (0:Int)) then
 some (x.2.2.1,(x.2.2.2.1.1,(3:Int)),x.2.2.2.2.1,x.2.2.2.2.2.1,x.2.2.2.2.2.2.1,x.2.2.2.2.2.2.2.1,x.2.2.2.2.2.2.2.2)
 else
 bif (inb x.2.1.2.1 (List.length x.2.2.2.2.2.2.1)) then
 (Z35 (x.1.1,(12:Int),x.2.1.2.1,(0:Int),(Int.negSucc 0),x.2.2.1,x.2.2.2.1,x.2.2.2.2.1,x.2.2.2.2.2.1,(List.set x.2.2.2.2.2.2.1 (toN x.2.1.2.1) r14.1),x.2.2.2.2.2.2.2.1,x.2.2.2.2.2.2.2.2)).bind fun r15 =>
 (Z22 (x.1.1,r15.2.1,r15.2.2.1,r15.2.2.2.1,r15.2.2.2.2.1,r15.2.2.2.2.2.1,r15.2.2.2.2.2.2.1,r15.2.2.2.2.2.2.2)).bind fun r16 =>
 bif r14.2.2.1 then
 (Z2c (r14.2.1.1,x.2.1.2.1,r14.2.1.2.2,r16.1,r16.2.1,r16.2.2.1,r16.2.2.2.1,r16.2.2.2.2.1,r16.2.2.2.2.2.1,r16.2.2.2.2.2.2)).bind fun r17 =>
 some (r17.1,r17.2.1,r17.2.2.1,r17.2.2.2.1,r17.2.2.2.2.1,r17.2.2.2.2.2.1,r17.2.2.2.2.2.2)
 else
 some (r16.1,r16.2.1,r16.2.2.1,r16.2.2.2.1,r16.2.2.2.2.1,r16.2.2.2.2.2.1,r16.2.2.2.2.2.2)
 else
 none
 else
 none
abbrev Z10q:=Spec.shp Zq0 Zvd Z37
def Zg3:Ctx:={ tb:=mkTb T2.tbl,fx:=[(128,[],Zzm),(40,[],Z10p),(120,[],Z106),(127,[],Z10b)],sum:=[],nt:=59,pin:=1,nr:=true,ys:=[] }
theorem Z38:Sound Tryz.prog 70 (Z10q) :=
 Sound.shp (C:=Zg3) (fn:=Tryz.f70) (by kernel_rfl) (c:=bodyOf Tryz.f70) (by kernel_rfl) (by decide) (ctxOK mixed tbl_ok rfl ⟨Zz,Z36,Z23,Z2d,trivial⟩ trivial) (SumOK.of trivial) (by kernel_rfl) Zq0 Zvd rfl (by decide) (by decide) rfl (by decide) rfl Z37 (fun x=>by kernel_rfl)
abbrev Zq7:Shape:={ sl:=sl_30,bl:=[],ts:=[y23,y5],pin:=0 }
abbrev Zvk:Shape:={ sl:=sl_31,bl:=[],ts:=ts_15,pin:=0 }
def Z3l (x:T30):Option T34 :=
 some (((1:Int),x.2.1,([]:List T7)),(0:Int),(0:Int))
abbrev Z10x:=Spec.shp Zq7 Zvk Z3l
def Zga:Ctx:={ tb:=mkTb T2.tbl,fx:=[],sum:=[],nt:=10,pin:=0,nr:=true,ys:=[] }
theorem Z3m:Sound Tryz.prog 173 (Z10x) :=
 Sound.shp (C:=Zga) (fn:=Tryz.f173) (by kernel_rfl) (c:=bodyOf Tryz.f173) (by kernel_rfl) (by decide) (ctxOK mixed tbl_ok rfl trivial trivial) (SumOK.of trivial) (by kernel_rfl) Zq7 Zvk rfl (by decide) (by decide) rfl (by decide) rfl Z3l (fun x=>by kernel_rfl)
abbrev Zq9:Shape:={ sl:=sl_30,bl:=[],ts:=[y23,y5],pin:=0 }
abbrev Zvm:Shape:={ sl:=sl_31,bl:=[],ts:=ts_15,pin:=0 }
def Z3p (x:T30):Option T34 :=
 bif (x.1.2.1 == x.2.1) then
 some (((0:Int),(0:Int),([]:List T7)),(0:Int),(6:Int))
 else
 (Zan (x.1.2.2,x.2)).bind fun r18 =>
 bif (r18.2 != (0:Int)) then
 some (((0:Int),(0:Int),([]:List T7)),(0:Int),r18.2)
 else
 some ((x.1.1,x.1.2.1,r18.1),(1:Int),(0:Int))
abbrev Z10z:=Spec.shp Zq9 Zvm Z3p
def Zgc:Ctx:={ tb:=mkTb T2.tbl,fx:=[(171,[],Z14d)],sum:=[],nt:=29,pin:=0,nr:=true,ys:=[] }
theorem Z3q:Sound Tryz.prog 174 (Z10z) :=
 Sound.shp (C:=Zgc) (fn:=Tryz.f174) (by kernel_rfl) (c:=bodyOf Tryz.f174) (by kernel_rfl) (by decide) (ctxOK mixed tbl_ok rfl ⟨Zao,trivial⟩ trivial) (SumOK.of trivial) (by kernel_rfl) Zq9 Zvm rfl (by decide) (by decide) rfl (by decide) rfl Z3p (fun x=>by kernel_rfl)
abbrev Zq8:Shape:={ sl:=sl_30,bl:=[],ts:=[y23,y5],pin:=0 }
abbrev Zvl:Shape:={ sl:=sl_31,bl:=[],ts:=ts_15,pin:=0 }
def Z3n (x:T30):Option T34 :=
 some (x.1,(2:Int),(0:Int))
abbrev Z10y:=Spec.shp Zq8 Zvl Z3n
def Zgb:Ctx:={ tb:=mkTb T2.tbl,fx:=[],sum:=[],nt:=8,pin:=0,nr:=true,ys:=[] }
theorem Z3o:Sound Tryz.prog 175 (Z10y) :=
 Sound.shp (C:=Zgb) (fn:=Tryz.f175) (by kernel_rfl) (c:=bodyOf Tryz.f175) (by kernel_rfl) (by decide) (ctxOK mixed tbl_ok rfl trivial trivial) (SumOK.of trivial) (by kernel_rfl) Zq8 Zvl rfl (by decide) (by decide) rfl (by decide) rfl Z3n (fun x=>by kernel_rfl)
abbrev Zq4:Shape:={ sl:=sl_30,bl:=[],ts:=[y23,y5],pin:=0 }
abbrev Zvh:Shape:={ sl:=sl_31,bl:=[],ts:=ts_15,pin:=0 }
def Z3f (x:T30):Option T34 :=
 (Z3j x.1).bind fun r16 =>
 bif (Bool.not r16) then
 some (((0:Int),(0:Int),([]:List T7)),(0:Int),(1:Int))
 else
 bif (decide (x.2.1 < (0:Int))) then
 some (((0:Int),(0:Int),([]:List T7)),(0:Int),(1:Int))
 else
 bif (decide (x.2.2.1 < (0:Int))) then
 some (((0:Int),(0:Int),([]:List T7)),(0:Int),(1:Int))
 else
 bif (decide (x.2.2.2 < (0:Int))) then
 some (((0:Int),(0:Int),([]:List T7)),(0:Int),(1:Int))
 else
 bif (x.1.1 == (((0:Nat):Nat):Int)) then
 (Z3l (x.1,x.2)).bind fun r17 =>
 some (r17.1,r17.2.1,r17.2.2)
 else
 bif (x.1.1 == ((((0:Nat)+(1:Nat)):Nat):Int)) then
 (Z3p (x.1,x.2)).bind fun r17 =>
 some (r17.1,r17.2.1,r17.2.2)
 else
 bif (x.1.1 == (((((0:Nat)+(1:Nat))+(1:Nat)):Nat):Int)) then
 (Z3n (x.1,x.2)).bind fun r17 =>
 some (r17.1,r17.2.1,r17.2.2)
 else
 none
abbrev Z10u:=Spec.shp Zq4 Zvh Z3f
def Zg7:Ctx:={ tb:=mkTb T2.tbl,fx:=[(118,[],Z10w),(173,[],Z10x),(174,[],Z10z),(175,[],Z10y)],sum:=[],nt:=42,pin:=0,nr:=true,ys:=[] }
theorem Z3g:Sound Tryz.prog 129 (Z10u) :=
 Sound.shp (C:=Zg7) (fn:=Tryz.f129) (by kernel_rfl) (c:=bodyOf Tryz.f129) (by kernel_rfl) (by decide) (ctxOK mixed tbl_ok rfl ⟨Z3k,Z3m,Z3q,Z3o,trivial⟩ trivial) (SumOK.of trivial) (by kernel_rfl) Zq4 Zvh rfl (by decide) (by decide) rfl (by decide) rfl Z3f (fun x=>by kernel_rfl)
abbrev Zpy:Shape:={ sl:=sl_14,bl:=bl_2,ts:=[(.int .i64),(.int .i64),y39,y4,y18,y41,y19,y26,y27],pin:=0 }
abbrev Zvb:Shape:={ sl:=[],bl:=bl_2,ts:=ts_11,pin:=1 }
def Z33 (x:(Int × Int × T47 × (Int × Int) × List (T17) × List T43 × List (T18) × List T29 × List (T20))):Option T57 :=
 (Z26 (x.1,x.2.2.1,x.2.2.2.1,x.2.2.2.2.1,x.2.2.2.2.2.1,x.2.2.2.2.2.2.1,x.2.2.2.2.2.2.2.1,x.2.2.2.2.2.2.2.2)).bind fun r17 =>
 (Z35 (x.1,(15:Int),r17.1.2.1,(0:Int),x.2.1,r17.2.1,r17.2.2.1,r17.2.2.2.1,r17.2.2.2.2.1,r17.2.2.2.2.2.1,r17.2.2.2.2.2.2.1,r17.2.2.2.2.2.2.2)).bind fun r18 =>
 (Z24 (x.1,r17.1.2.2,r18.2.1,r18.2.2.1,r18.2.2.2.1,r18.2.2.2.2.1,r18.2.2.2.2.2.1,r18.2.2.2.2.2.2.1,r18.2.2.2.2.2.2.2)).bind fun r19 =>
 some (r19.1,r19.2.1,r19.2.2.1,r19.2.2.2.1,r19.2.2.2.2.1,r19.2.2.2.2.2.1,r19.2.2.2.2.2.2)
abbrev Z10o:=Spec.shp Zpy Zvb Z33
def Zg1:Ctx:={ tb:=mkTb T2.tbl,fx:=[(78,[],Z108),(40,[],Z10p),(41,[],Z107)],sum:=[],nt:=21,pin:=1,nr:=true,ys:=[] }
theorem Z34:Sound Tryz.prog 130 (Z10o) :=
 Sound.shp (C:=Zg1) (fn:=Tryz.f130) (by kernel_rfl) (c:=bodyOf Tryz.f130) (by kernel_rfl) (by decide) (ctxOK mixed tbl_ok rfl ⟨Z27,Z36,Z25,trivial⟩ trivial) (SumOK.of trivial) (by kernel_rfl) Zpy Zvb rfl (by decide) (by decide) rfl (by decide) rfl Z33 (fun x=>by kernel_rfl)
abbrev Zpd:Shape:={ sl:=sl_26,bl:=bl_2,ts:=ts_14,pin:=0 }
abbrev Zuq:Shape:={ sl:=[],bl:=bl_2,ts:=ts_11,pin:=1 }
def Z1w (x:T60):Option T57 :=
 (Z35 (x.1.1,(13:Int),x.2.1.2.1,(0:Int),(Int.negSucc 0),x.2.2.1,x.2.2.2.1,x.2.2.2.2.1,x.2.2.2.2.2.1,x.2.2.2.2.2.2.1,x.2.2.2.2.2.2.2.1,x.2.2.2.2.2.2.2.2)).bind fun r14 =>
 bif (inb x.2.1.2.1 (List.length r14.2.2.2.2.2.2.1)) then
 (Z3f ((getAt ((0:Int),(0:Int),([]:List T7)) r14.2.2.2.2.2.2.1 (toN x.2.1.2.1)),x.1.1,(0:Int),r14.1)).bind fun r15 =>
 bif (r15.2.2 != (0:Int)) then
 (Z39 (x.1.1,r14.2.1,r14.2.2.1,r14.2.2.2.1,r14.2.2.2.2.1,r14.2.2.2.2.2.1,r14.2.2.2.2.2.2.1,r14.2.2.2.2.2.2.2)).bind fun r16 =>
 some (r16.1,r16.2.1,r16.2.2.1,r16.2.2.2.1,r16.2.2.2.2.1,r16.2.2.2.2.2.1,r16.2.2.2.2.2.2)
 else
 bif (inb x.2.1.2.1 (List.length r14.2.2.2.2.2.2.1)) then
 bif (r15.2.1 == (0:Int)) then
 (Z22 (x.1.1,r14.2.1,r14.2.2.1,r14.2.2.2.1,r14.2.2.2.2.1,r14.2.2.2.2.2.1,(List.set r14.2.2.2.2.2.2.1 (toN x.2.1.2.1) r15.1),r14.2.2.2.2.2.2.2)).bind fun r16 =>
 some (r16.1,r16.2.1,r16.2.2.1,r16.2.2.2.1,r16.2.2.2.2.1,r16.2.2.2.2.2.1,r16.2.2.2.2.2.2)
 else
 bif (r15.2.1 == (1:Int)) then
 (Z39 (x.1.1,r14.2.1,r14.2.2.1,r14.2.2.2.1,r14.2.2.2.2.1,r14.2.2.2.2.2.1,(List.set r14.2.2.2.2.2.2.1 (toN x.2.1.2.1) r15.1),r14.2.2.2.2.2.2.2)).bind fun r16 =>
 some (r16.1,r16.2.1,r16.2.2.1,r16.2.2.2.1,r16.2.2.2.2.1,r16.2.2.2.2.2.1,r16.2.2.2.2.2.2)
 else
 (Z33 (x.1.1,r14.1,r14.2.1,r14.2.2.1,r14.2.2.2.1,r14.2.2.2.2.1,r14.2.2.2.2.2.1,(List.set r14.2.2.2.2.2.2.1 (toN x.2.1.2.1) r15.1),r14.2.2.2.2.2.2.2)).bind fun r16 =>
 some (r16.1,r16.2.1,r16.2.2.1,r16.2.2.2.1,r16.2.2.2.2.1,r16.2.2.2.2.2.1,r16.2.2.2.2.2.2)
 else
 none
 else
 none
abbrev Z103:=Spec.shp Zpd Zuq Z1w
def Zfc:Ctx:={ tb:=mkTb T2.tbl,fx:=[(40,[],Z10p),(129,[],Z10u),(125,[],Z10r),(120,[],Z106),(130,[],Z10o)],sum:=[],nt:=67,pin:=1,nr:=true,ys:=[] }
theorem Z1x:Sound Tryz.prog 71 (Z103) :=
 Sound.shp (C:=Zfc) (fn:=Tryz.f71) (by kernel_rfl) (c:=bodyOf Tryz.f71) (by kernel_rfl) (by decide) (ctxOK mixed tbl_ok rfl ⟨Z36,Z3g,Z3a,Z23,Z34,trivial⟩ trivial) (SumOK.of trivial) (by kernel_rfl) Zpd Zuq rfl (by decide) (by decide) rfl (by decide) rfl Z1w (fun x=>by kernel_rfl)
abbrev Zq5:Shape:={ sl:=[(0,(.hole y23)),(1,(.hole (.int .i64)))],bl:=[],ts:=[y23,(.int .i64)],pin:=0 }
abbrev Zvi:Shape:={ sl:=[(0,(.hole y23)),(1,(.hole (.slice y5))),(2,(.hole (.int .i64)))],bl:=[],ts:=[y23,(.slice y5),(.int .i64)],pin:=0 }
def Z3h (x:((Int × T13) × Int)):Option ((Int × T13) × List (T7) × Int) :=
 (Z3j x.1).bind fun r15 =>
 bif (Bool.not r15) then
 some (((0:Int),(0:Int),([]:List T7)),([]:List T7),(1:Int))
 else
 bif (decide (x.2 < (0:Int))) then
 some (((0:Int),(0:Int),([]:List T7)),([]:List T7),(1:Int))
 else
 bif (x.1.1 != (1:Int)) then
 some (((0:Int),(0:Int),([]:List T7)),([]:List T7),(6:Int))
 else
 bif (x.1.2.1 != x.2) then
 some (((0:Int),(0:Int),([]:List T7)),([]:List T7),(6:Int))
 else
 some (((2:Int),(0:Int),([]:List T7)),x.1.2.2,(0:Int))
abbrev Z10v:=Spec.shp Zq5 Zvi Z3h
def Zg8:Ctx:={ tb:=mkTb T2.tbl,fx:=[(118,[],Z10w)],sum:=[],nt:=30,pin:=0,nr:=true,ys:=[] }
theorem Z3i:Sound Tryz.prog 131 (Z10v) :=
 Sound.shp (C:=Zg8) (fn:=Tryz.f131) (by kernel_rfl) (c:=bodyOf Tryz.f131) (by kernel_rfl) (by decide) (ctxOK mixed tbl_ok rfl ⟨Z3k,trivial⟩ trivial) (SumOK.of trivial) (by kernel_rfl) Zq5 Zvi rfl (by decide) (by decide) rfl (by decide) rfl Z3h (fun x=>by kernel_rfl)
abbrev Zn2:Shape:={ sl:=[(0,(.ptr 0 [])),(52,(.hole (.slice y5))),(53,(.hole (.int .i64))),(54,(.hole (.int .i64)))],bl:=bl_2,ts:=[(.slice y5),(.int .i64),(.int .i64),y39,y4,y18,y41,y19,y26,y27],pin:=1 }
abbrev Zlg:List (ETag × Shape):=[(.exit 0,{ sl:=[],bl:=bl_2,ts:=ts_11,pin:=1 })]
def Zbd (x:(List (T7) × Int × Int × T47 × (Int × Int) × List (T17) × List T43 × List (T18) × List T29 × List (T20))):Option ((List (T7) × Int × Int × T47 × (Int × Int) × List (T17) × List T43 × List (T18) × List T29 × List (T20)) ⊕ (T57)) :=
 bif (decide (x.2.2.1 < x.2.1)) then
 bif (inb x.2.2.1 (List.length x.1)) then
 (Z33 ((getAt ((0:Int),(0:Int),(0:Int)) x.1 (toN x.2.2.1)).1,(getAt ((0:Int),(0:Int),(0:Int)) x.1 (toN x.2.2.1)).2.2,x.2.2.2.1,x.2.2.2.2.1,x.2.2.2.2.2.1,x.2.2.2.2.2.2.1,x.2.2.2.2.2.2.2.1,x.2.2.2.2.2.2.2.2.1,x.2.2.2.2.2.2.2.2.2)).bind fun r18 =>
 some (.inl (x.1,x.2.1,(IntKind.wrap .i64 (x.2.2.1+(1:Int))),r18.1,r18.2.1,r18.2.2.1,r18.2.2.2.1,r18.2.2.2.2.1,r18.2.2.2.2.2.1,r18.2.2.2.2.2.2))
 else
 none
 else
 some (.inr (x.2.2.2.1,x.2.2.2.2.1,x.2.2.2.2.2.1,x.2.2.2.2.2.2.1,x.2.2.2.2.2.2.2.1,x.2.2.2.2.2.2.2.2.1,x.2.2.2.2.2.2.2.2.2))
def Zfg:Ctx:={ tb:=mkTb T2.tbl,fx:=[(131,[],Z10v),(40,[],Z10p),(120,[],Z106),(130,[],Z10o)],sum:=[],nt:=65,pin:=1,nr:=true,ys:=[] }
theorem Zbe:CSound Tryz.prog ⟨65,1,true⟩ (.loop (loopOf 9 Tryz.f72)) (Yay Zn2 Zlg (loop Zbd)) :=
 Y8c (C:=Zfg) (ctxOK mixed tbl_ok rfl ⟨Z3i,Z36,Z23,Z34,trivial⟩ trivial) (SumOK.of trivial) Zn2 Zlg rfl rfl Zbd (fun x=>by kernel_rfl)
abbrev Zpf:Shape:={ sl:=sl_26,bl:=bl_2,ts:=ts_14,pin:=0 }
abbrev Zus:Shape:={ sl:=[],bl:=bl_2,ts:=ts_11,pin:=1 }
def Z20 (x:T60):Option T57 :=
 bif (inb x.2.1.2.1 (List.length x.2.2.2.2.2.2.2.1)) then
 (Z3h ((getAt ((0:Int),(0:Int),([]:List T7)) x.2.2.2.2.2.2.2.1 (toN x.2.1.2.1)),x.1.1)).bind fun r14 =>
 bif (r14.2.2 != (0:Int)) then
 some (x.2.2.1,(x.2.2.2.1.1,(3:Int)),x.2.2.2.2.1,x.2.2.2.2.2.1,x.2.2.2.2.2.2.1,x.2.2.2.2.2.2.2.1,x.2.2.2.2.2.2.2.2)
 else
 bif (inb x.2.1.2.1 (List.length x.2.2.2.2.2.2.2.1)) then
 (Z35 (x.1.1,(14:Int),x.2.1.2.1,(0:Int),(Int.negSucc 0),x.2.2.1,x.2.2.2.1,x.2.2.2.2.1,x.2.2.2.2.2.1,x.2.2.2.2.2.2.1,(List.set x.2.2.2.2.2.2.2.1 (toN x.2.1.2.1) r14.1),x.2.2.2.2.2.2.2.2)).bind fun r15 =>
 (Z22 (x.1.1,r15.2.1,r15.2.2.1,r15.2.2.2.1,r15.2.2.2.2.1,r15.2.2.2.2.2.1,r15.2.2.2.2.2.2.1,r15.2.2.2.2.2.2.2)).bind fun r16 =>
 (loop Zbd (r14.2.1,(((List.length r14.2.1):Nat):Int),(0:Int),r16.1,r16.2.1,r16.2.2.1,r16.2.2.2.1,r16.2.2.2.2.1,r16.2.2.2.2.2.1,r16.2.2.2.2.2.2)).bind fun r17 =>
 some (r17.1,r17.2.1,r17.2.2.1,r17.2.2.2.1,r17.2.2.2.2.1,r17.2.2.2.2.2.1,r17.2.2.2.2.2.2)
 else
 none
 else
 none
abbrev Z105:=Spec.shp Zpf Zus Z20
def Zff:Ctx:={ tb:=mkTb T2.tbl,fx:=[(131,[],Z10v),(40,[],Z10p),(120,[],Z106),(130,[],Z10o)],sum:=[(0,9,Yay Zn2 Zlg (loop Zbd))],nt:=65,pin:=1,nr:=true,ys:=[] }
theorem Z21:Sound Tryz.prog 72 (Z105) :=
 Sound.shp (C:=Zff) (fn:=Tryz.f72) (by kernel_rfl) (c:=bodyOf Tryz.f72) (by kernel_rfl) (by decide) (ctxOK mixed tbl_ok rfl ⟨Z3i,Z36,Z23,Z34,trivial⟩ trivial) (SumOK.of ⟨(Yb0 (d:=.loop (loopOf 9 Tryz.f72)) (by kernel_rfl) Zbe),trivial⟩) (by kernel_rfl) Zpf Zus rfl (by decide) (by decide) rfl (by decide) rfl Z20 (fun x=>by kernel_rfl)
abbrev Zpc:Shape:={ sl:=sl_26,bl:=bl_2,ts:=ts_14,pin:=0 }
abbrev Zup:Shape:={ sl:=[],bl:=bl_2,ts:=ts_11,pin:=1 }
def Z1u (x:T60):Option T57 :=
 bif ((((List.length x.2.2.2.2.1):Nat):Int) == (8:Int)) then
 some (x.2.2.1,(x.2.2.2.1.1,(4:Int)),x.2.2.2.2.1,x.2.2.2.2.2.1,x.2.2.2.2.2.2.1,x.2.2.2.2.2.2.2.1,x.2.2.2.2.2.2.2.2)
 else
 (Z35 (x.1.1,(1:Int),(((List.length x.2.2.2.2.1):Nat):Int),(0:Int),(Int.negSucc 0),x.2.2.1,x.2.2.2.1,x.2.2.2.2.1,x.2.2.2.2.2.1,x.2.2.2.2.2.2.1,x.2.2.2.2.2.2.2.1,x.2.2.2.2.2.2.2.2)).bind fun r14 =>
 (Z35 ((((List.length x.2.2.2.2.1):Nat):Int),(0:Int),(0:Int),(0:Int),r14.1,r14.2.1,r14.2.2.1,r14.2.2.2.1,r14.2.2.2.2.1,r14.2.2.2.2.2.1,r14.2.2.2.2.2.2.1,r14.2.2.2.2.2.2.2)).bind fun r15 =>
 bif (fits ((List.length r15.2.2.2.1)+(List.length ((x.2.1.2.1,(0:Int),(0:Int),false) :: ([]:List T17))))) then
 (Z24 ((((List.length x.2.2.2.2.1):Nat):Int),(0:Int),r15.2.1,r15.2.2.1,(r15.2.2.2.1++((x.2.1.2.1,(0:Int),(0:Int),false) :: ([]:List T17))),r15.2.2.2.2.1,r15.2.2.2.2.2.1,r15.2.2.2.2.2.2.1,r15.2.2.2.2.2.2.2)).bind fun r16 =>
 (Z22 (x.1.1,r16.1,r16.2.1,r16.2.2.1,r16.2.2.2.1,r16.2.2.2.2.1,r16.2.2.2.2.2.1,r16.2.2.2.2.2.2)).bind fun r17 =>
 some (r17.1,r17.2.1,r17.2.2.1,r17.2.2.2.1,r17.2.2.2.2.1,r17.2.2.2.2.2.1,r17.2.2.2.2.2.2)
 else
 none
abbrev Z102:=Spec.shp Zpc Zup Z1u
def Zfb:Ctx:={ tb:=mkTb T2.tbl,fx:=[(40,[],Z10p),(41,[],Z107),(120,[],Z106)],sum:=[],nt:=50,pin:=1,nr:=true,ys:=[] }
theorem Z1v:Sound Tryz.prog 73 (Z102) :=
 Sound.shp (C:=Zfb) (fn:=Tryz.f73) (by kernel_rfl) (c:=bodyOf Tryz.f73) (by kernel_rfl) (by decide) (ctxOK mixed tbl_ok rfl ⟨Z36,Z25,Z23,trivial⟩ trivial) (SumOK.of trivial) (by kernel_rfl) Zpc Zup rfl (by decide) (by decide) rfl (by decide) rfl Z1u (fun x=>by kernel_rfl)
abbrev Zpq:Shape:={ sl:=sl_26,bl:=bl_2,ts:=ts_14,pin:=0 }
abbrev Zv3:Shape:={ sl:=[],bl:=bl_2,ts:=ts_11,pin:=1 }
def Z2m (x:T60):Option T57 :=
 (Z35 (x.1.1,(16:Int),x.2.1.2.1,(0:Int),(Int.negSucc 0),x.2.2.1,x.2.2.2.1,x.2.2.2.2.1,x.2.2.2.2.2.1,x.2.2.2.2.2.2.1,x.2.2.2.2.2.2.2.1,x.2.2.2.2.2.2.2.2)).bind fun r14 =>
 (Z22 (x.1.1,r14.2.1,r14.2.2.1,r14.2.2.2.1,r14.2.2.2.2.1,r14.2.2.2.2.2.1,r14.2.2.2.2.2.2.1,r14.2.2.2.2.2.2.2)).bind fun r15 =>
 some (r15.1,r15.2.1,r15.2.2.1,r15.2.2.2.1,r15.2.2.2.2.1,r15.2.2.2.2.2.1,r15.2.2.2.2.2.2)
abbrev Z10g:=Spec.shp Zpq Zv3 Z2m
def Zfr:Ctx:={ tb:=mkTb T2.tbl,fx:=[(40,[],Z10p),(120,[],Z106)],sum:=[],nt:=16,pin:=1,nr:=true,ys:=[] }
theorem Z2n:Sound Tryz.prog 74 (Z10g) :=
 Sound.shp (C:=Zfr) (fn:=Tryz.f74) (by kernel_rfl) (c:=bodyOf Tryz.f74) (by kernel_rfl) (by decide) (ctxOK mixed tbl_ok rfl ⟨Z36,Z23,trivial⟩ trivial) (SumOK.of trivial) (by kernel_rfl) Zpq Zv3 rfl (by decide) (by decide) rfl (by decide) rfl Z2m (fun x=>by kernel_rfl)
abbrev Zq2:Shape:={ sl:=sl_26,bl:=bl_2,ts:=ts_14,pin:=0 }
abbrev Zvf:Shape:={ sl:=[],bl:=bl_2,ts:=ts_11,pin:=1 }
def Z3b (x:T60):Option T57 :=
 (Z35 (x.1.1,(17:Int),x.2.1.2.1,(0:Int),(Int.negSucc 0),x.2.2.1,x.2.2.2.1,x.2.2.2.2.1,x.2.2.2.2.2.1,x.2.2.2.2.2.2.1,x.2.2.2.2.2.2.2.1,x.2.2.2.2.2.2.2.2)).bind fun r14 =>
 (Z22 (x.1.1,r14.2.1,r14.2.2.1,r14.2.2.2.1,r14.2.2.2.2.1,r14.2.2.2.2.2.1,r14.2.2.2.2.2.2.1,r14.2.2.2.2.2.2.2)).bind fun r15 =>
 some (r15.1,r15.2.1,r15.2.2.1,r15.2.2.2.1,r15.2.2.2.2.1,r15.2.2.2.2.2.1,r15.2.2.2.2.2.2)
abbrev Z10s:=Spec.shp Zq2 Zvf Z3b
def Zg5:Ctx:={ tb:=mkTb T2.tbl,fx:=[(40,[],Z10p),(120,[],Z106)],sum:=[],nt:=16,pin:=1,nr:=true,ys:=[] }
theorem Z3c:Sound Tryz.prog 75 (Z10s) :=
 Sound.shp (C:=Zg5) (fn:=Tryz.f75) (by kernel_rfl) (c:=bodyOf Tryz.f75) (by kernel_rfl) (by decide) (ctxOK mixed tbl_ok rfl ⟨Z36,Z23,trivial⟩ trivial) (SumOK.of trivial) (by kernel_rfl) Zq2 Zvf rfl (by decide) (by decide) rfl (by decide) rfl Z3b (fun x=>by kernel_rfl)
abbrev Zpj:Shape:={ sl:=sl_26,bl:=bl_2,ts:=ts_14,pin:=0 }
abbrev Zuw:Shape:={ sl:=[],bl:=bl_2,ts:=ts_11,pin:=1 }
def Z28 (x:T60):Option T57 :=
 (Z24 (x.1.1,x.2.1.2.1,x.2.2.1,x.2.2.2.1,x.2.2.2.2.1,x.2.2.2.2.2.1,x.2.2.2.2.2.2.1,x.2.2.2.2.2.2.2.1,x.2.2.2.2.2.2.2.2)).bind fun r14 =>
 some (r14.1,r14.2.1,r14.2.2.1,r14.2.2.2.1,r14.2.2.2.2.1,r14.2.2.2.2.2.1,r14.2.2.2.2.2.2)
abbrev Z109:=Spec.shp Zpj Zuw Z28
def Zfk:Ctx:={ tb:=mkTb T2.tbl,fx:=[(41,[],Z107)],sum:=[],nt:=12,pin:=1,nr:=true,ys:=[] }
theorem Z29:Sound Tryz.prog 76 (Z109) :=
 Sound.shp (C:=Zfk) (fn:=Tryz.f76) (by kernel_rfl) (c:=bodyOf Tryz.f76) (by kernel_rfl) (by decide) (ctxOK mixed tbl_ok rfl ⟨Z25,trivial⟩ trivial) (SumOK.of trivial) (by kernel_rfl) Zpj Zuw rfl (by decide) (by decide) rfl (by decide) rfl Z28 (fun x=>by kernel_rfl)
abbrev Zpo:Shape:={ sl:=sl_26,bl:=bl_2,ts:=ts_14,pin:=0 }
abbrev Zv1:Shape:={ sl:=[],bl:=bl_2,ts:=ts_11,pin:=1 }
def Z2i (x:T60):Option T57 :=
 bif (inb x.1.1 (List.length x.2.2.2.2.1)) then
 bif (getAt ((0:Int),(0:Int),(0:Int),false) x.2.2.2.2.1 (toN x.1.1)).2.2.2 then
 (Z28 (x.1,x.2.1,x.2.2.1,x.2.2.2.1,x.2.2.2.2.1,x.2.2.2.2.2.1,x.2.2.2.2.2.2.1,x.2.2.2.2.2.2.2.1,x.2.2.2.2.2.2.2.2)).bind fun r14 =>
 some (r14.1,r14.2.1,r14.2.2.1,r14.2.2.2.1,r14.2.2.2.2.1,r14.2.2.2.2.2.1,r14.2.2.2.2.2.2)
 else
 (Z22 (x.1.1,x.2.2.1,x.2.2.2.1,x.2.2.2.2.1,x.2.2.2.2.2.1,x.2.2.2.2.2.2.1,x.2.2.2.2.2.2.2.1,x.2.2.2.2.2.2.2.2)).bind fun r14 =>
 some (r14.1,r14.2.1,r14.2.2.1,r14.2.2.2.1,r14.2.2.2.2.1,r14.2.2.2.2.2.1,r14.2.2.2.2.2.2)
 else
 none
abbrev Z10e:=Spec.shp Zpo Zv1 Z2i
def Zfp:Ctx:={ tb:=mkTb T2.tbl,fx:=[(76,[],Z109),(120,[],Z106)],sum:=[],nt:=24,pin:=1,nr:=true,ys:=[] }
theorem Z2j:Sound Tryz.prog 77 (Z10e) :=
 Sound.shp (C:=Zfp) (fn:=Tryz.f77) (by kernel_rfl) (c:=bodyOf Tryz.f77) (by kernel_rfl) (by decide) (ctxOK mixed tbl_ok rfl ⟨Z29,Z23,trivial⟩ trivial) (SumOK.of trivial) (by kernel_rfl) Zpo Zv1 rfl (by decide) (by decide) rfl (by decide) rfl Z2i (fun x=>by kernel_rfl)
abbrev Zp2:Shape:={ sl:=[(0,(.hole y45)),(1,(.hole y4))],bl:=[],ts:=[y45,y4],pin:=0 }
abbrev Zuf:Shape:={ sl:=[(0,(.hole y45)),(1,(.hole y27)),(2,(.hole (.int .i64)))],bl:=[],ts:=[y45,y27,(.int .i64)],pin:=0 }
def Z1a (x:((T47 × T61) × (Int × Int))):Option ((T47 × T61) × List (T20) × Int) :=
 (Z16 x.1).bind fun r6 =>
 (Z9p (r6,x.2)).bind fun r7 =>
 bif (Bool.not r7) then
 some (((([]:List Int),(0:Int),(0:Int),(0:Int),([]:List T21),([]:List (List T7))),([]:List T17),([]:List (Int × T41)),([]:List T22),([]:List (Int × T14)),(0:Int),(0:Int)),([]:List T20),(4:Int))
 else
 (Z91 x.1.2.1).bind fun r8 =>
 (Z8x x.1.2.2.1).bind fun r9 =>
 (Z93 x.1.2.2.2.1).bind fun r10 =>
 (Z95 x.1.2.2.2.2.1).bind fun r11 =>
 (Z26 (x.2.1,x.1.1,x.1.2.2.2.2.2,r8,r9,r10,r11,([]:List T20))).bind fun r12 =>
 bif (r12.1.1 == (((0:Nat):Nat):Int)) then
 (Z2e (x.2,r12.1,r12.2.1,r12.2.2.1,r12.2.2.2.1,r12.2.2.2.2.1,r12.2.2.2.2.2.1,r12.2.2.2.2.2.2.1,r12.2.2.2.2.2.2.2)).bind fun r13 =>
 (Z2u (r13.1,r13.2.1,r13.2.2.1,r13.2.2.2.1,r13.2.2.2.2.1,r13.2.2.2.2.2.1,r13.2.2.2.2.2.2)).bind fun r14 =>
 some ((r14.1,r14.2.2.1,r14.2.2.2.1,r14.2.2.2.2.1,r14.2.2.2.2.2.1,r14.2.1),r14.2.2.2.2.2.2,(0:Int))
 else
 bif (r12.1.1 == ((((0:Nat)+(1:Nat)):Nat):Int)) then
 (Z2s (x.2,r12.1,r12.2.1,r12.2.2.1,r12.2.2.2.1,r12.2.2.2.2.1,r12.2.2.2.2.2.1,r12.2.2.2.2.2.2.1,r12.2.2.2.2.2.2.2)).bind fun r13 =>
 (Z2u (r13.1,r13.2.1,r13.2.2.1,r13.2.2.2.1,r13.2.2.2.2.1,r13.2.2.2.2.2.1,r13.2.2.2.2.2.2)).bind fun r14 =>
 some ((r14.1,r14.2.2.1,r14.2.2.2.1,r14.2.2.2.2.1,r14.2.2.2.2.2.1,r14.2.1),r14.2.2.2.2.2.2,(0:Int))
 else
 bif (r12.1.1 == (((((0:Nat)+(1:Nat))+(1:Nat)):Nat):Int)) then
 (Z2o (x.2,r12.1,r12.2.1,r12.2.2.1,r12.2.2.2.1,r12.2.2.2.2.1,r12.2.2.2.2.2.1,r12.2.2.2.2.2.2.1,r12.2.2.2.2.2.2.2)).bind fun r13 =>
 (Z2u (r13.1,r13.2.1,r13.2.2.1,r13.2.2.2.1,r13.2.2.2.2.1,r13.2.2.2.2.2.1,r13.2.2.2.2.2.2)).bind fun r14 =>
 some ((r14.1,r14.2.2.1,r14.2.2.2.1,r14.2.2.2.2.1,r14.2.2.2.2.2.1,r14.2.1),r14.2.2.2.2.2.2,(0:Int))
 else
 bif (r12.1.1 == ((((((0:Nat)+(1:Nat))+(1:Nat))+(1:Nat)):Nat):Int)) then
 (Z31 (x.2,r12.1,r12.2.1,r12.2.2.1,r12.2.2.2.1,r12.2.2.2.2.1,r12.2.2.2.2.2.1,r12.2.2.2.2.2.2.1,r12.2.2.2.2.2.2.2)).bind fun r13 =>
 (Z2u (r13.1,r13.2.1,r13.2.2.1,r13.2.2.2.1,r13.2.2.2.2.1,r13.2.2.2.2.2.1,r13.2.2.2.2.2.2)).bind fun r14 =>
 some ((r14.1,r14.2.2.1,r14.2.2.2.1,r14.2.2.2.2.1,r14.2.2.2.2.2.1,r14.2.1),r14.2.2.2.2.2.2,(0:Int))
 else
 bif (r12.1.1 == (((((((0:Nat)+(1:Nat))+(1:Nat))+(1:Nat))+(1:Nat)):Nat):Int)) then
 (Z2q (x.2,r12.1,r12.2.1,r12.2.2.1,r12.2.2.2.1,r12.2.2.2.2.1,r12.2.2.2.2.2.1,r12.2.2.2.2.2.2.1,r12.2.2.2.2.2.2.2)).bind fun r13 =>
 (Z2u (r13.1,r13.2.1,r13.2.2.1,r13.2.2.2.1,r13.2.2.2.2.1,r13.2.2.2.2.2.1,r13.2.2.2.2.2.2)).bind fun r14 =>
 some ((r14.1,r14.2.2.1,r14.2.2.2.1,r14.2.2.2.2.1,r14.2.2.2.2.2.1,r14.2.1),r14.2.2.2.2.2.2,(0:Int))
 else
 bif (r12.1.1 == ((((((((0:Nat)+(1:Nat))+(1:Nat))+(1:Nat))+(1:Nat))+(1:Nat)):Nat):Int)) then
 (Z2a (x.2,r12.1,r12.2.1,r12.2.2.1,r12.2.2.2.1,r12.2.2.2.2.1,r12.2.2.2.2.2.1,r12.2.2.2.2.2.2.1,r12.2.2.2.2.2.2.2)).bind fun r13 =>
 (Z2u (r13.1,r13.2.1,r13.2.2.1,r13.2.2.2.1,r13.2.2.2.2.1,r13.2.2.2.2.2.1,r13.2.2.2.2.2.2)).bind fun r14 =>
 some ((r14.1,r14.2.2.1,r14.2.2.2.1,r14.2.2.2.2.1,r14.2.2.2.2.2.1,r14.2.1),r14.2.2.2.2.2.2,(0:Int))
 else
 bif (r12.1.1 == (((((((((0:Nat)+(1:Nat))+(1:Nat))+(1:Nat))+(1:Nat))+(1:Nat))+(1:Nat)):Nat):Int)) then
 (Z37 (x.2,r12.1,r12.2.1,r12.2.2.1,r12.2.2.2.1,r12.2.2.2.2.1,r12.2.2.2.2.2.1,r12.2.2.2.2.2.2.1,r12.2.2.2.2.2.2.2)).bind fun r13 =>
 (Z2u (r13.1,r13.2.1,r13.2.2.1,r13.2.2.2.1,r13.2.2.2.2.1,r13.2.2.2.2.2.1,r13.2.2.2.2.2.2)).bind fun r14 =>
 some ((r14.1,r14.2.2.1,r14.2.2.2.1,r14.2.2.2.2.1,r14.2.2.2.2.2.1,r14.2.1),r14.2.2.2.2.2.2,(0:Int))
 else
 bif (r12.1.1 == ((((((((((0:Nat)+(1:Nat))+(1:Nat))+(1:Nat))+(1:Nat))+(1:Nat))+(1:Nat))+(1:Nat)):Nat):Int)) then
 (Z1w (x.2,r12.1,r12.2.1,r12.2.2.1,r12.2.2.2.1,r12.2.2.2.2.1,r12.2.2.2.2.2.1,r12.2.2.2.2.2.2.1,r12.2.2.2.2.2.2.2)).bind fun r13 =>
 (Z2u (r13.1,r13.2.1,r13.2.2.1,r13.2.2.2.1,r13.2.2.2.2.1,r13.2.2.2.2.2.1,r13.2.2.2.2.2.2)).bind fun r14 =>
 some ((r14.1,r14.2.2.1,r14.2.2.2.1,r14.2.2.2.2.1,r14.2.2.2.2.2.1,r14.2.1),r14.2.2.2.2.2.2,(0:Int))
 else
 bif (r12.1.1 == (((((((((((0:Nat)+(1:Nat))+(1:Nat))+(1:Nat))+(1:Nat))+(1:Nat))+(1:Nat))+(1:Nat))+(1:Nat)):Nat):Int)) then
 (Z20 (x.2,r12.1,r12.2.1,r12.2.2.1,r12.2.2.2.1,r12.2.2.2.2.1,r12.2.2.2.2.2.1,r12.2.2.2.2.2.2.1,r12.2.2.2.2.2.2.2)).bind fun r13 =>
 (Z2u (r13.1,r13.2.1,r13.2.2.1,r13.2.2.2.1,r13.2.2.2.2.1,r13.2.2.2.2.2.1,r13.2.2.2.2.2.2)).bind fun r14 =>
 some ((r14.1,r14.2.2.1,r14.2.2.2.1,r14.2.2.2.2.1,r14.2.2.2.2.2.1,r14.2.1),r14.2.2.2.2.2.2,(0:Int))
 else
 bif (r12.1.1 == ((((((((((((0:Nat)+(1:Nat))+(1:Nat))+(1:Nat))+(1:Nat))+(1:Nat))+(1:Nat))+(1:Nat))+(1:Nat))+(1:Nat)):Nat):Int)) then
 (Z1u (x.2,r12.1,r12.2.1,r12.2.2.1,r12.2.2.2.1,r12.2.2.2.2.1,r12.2.2.2.2.2.1,r12.2.2.2.2.2.2.1,r12.2.2.2.2.2.2.2)).bind fun r13 =>
 (Z2u (r13.1,r13.2.1,r13.2.2.1,r13.2.2.2.1,r13.2.2.2.2.1,r13.2.2.2.2.2.1,r13.2.2.2.2.2.2)).bind fun r14 =>
 some ((r14.1,r14.2.2.1,r14.2.2.2.1,r14.2.2.2.2.1,r14.2.2.2.2.2.1,r14.2.1),r14.2.2.2.2.2.2,(0:Int))
 else
 bif (r12.1.1 == (((((((((((((0:Nat)+(1:Nat))+(1:Nat))+(1:Nat))+(1:Nat))+(1:Nat))+(1:Nat))+(1:Nat))+(1:Nat))+(1:Nat))+(1:Nat)):Nat):Int)) then
 (Z2m (x.2,r12.1,r12.2.1,r12.2.2.1,r12.2.2.2.1,r12.2.2.2.2.1,r12.2.2.2.2.2.1,r12.2.2.2.2.2.2.1,r12.2.2.2.2.2.2.2)).bind fun r13 =>
 (Z2u (r13.1,r13.2.1,r13.2.2.1,r13.2.2.2.1,r13.2.2.2.2.1,r13.2.2.2.2.2.1,r13.2.2.2.2.2.2)).bind fun r14 =>
 some ((r14.1,r14.2.2.1,r14.2.2.2.1,r14.2.2.2.2.1,r14.2.2.2.2.2.1,r14.2.1),r14.2.2.2.2.2.2,(0:Int))
 else
 bif (r12.1.1 == ((((((((((((((0:Nat)+(1:Nat))+(1:Nat))+(1:Nat))+(1:Nat))+(1:Nat))+(1:Nat))+(1:Nat))+(1:Nat))+(1:Nat))+(1:Nat))+(1:Nat)):Nat):Int)) then
 (Z3b (x.2,r12.1,r12.2.1,r12.2.2.1,r12.2.2.2.1,r12.2.2.2.2.1,r12.2.2.2.2.2.1,r12.2.2.2.2.2.2.1,r12.2.2.2.2.2.2.2)).bind fun r13 =>
 (Z2u (r13.1,r13.2.1,r13.2.2.1,r13.2.2.2.1,r13.2.2.2.2.1,r13.2.2.2.2.2.1,r13.2.2.2.2.2.2)).bind fun r14 =>
 some ((r14.1,r14.2.2.1,r14.2.2.2.1,r14.2.2.2.2.1,r14.2.2.2.2.2.1,r14.2.1),r14.2.2.2.2.2.2,(0:Int))
 else
 bif (r12.1.1 == (((((((((((((((0:Nat)+(1:Nat))+(1:Nat))+(1:Nat))+(1:Nat))+(1:Nat))+(1:Nat))+(1:Nat))+(1:Nat))+(1:Nat))+(1:Nat))+(1:Nat))+(1:Nat)):Nat):Int)) then
 (Z28 (x.2,r12.1,r12.2.1,r12.2.2.1,r12.2.2.2.1,r12.2.2.2.2.1,r12.2.2.2.2.2.1,r12.2.2.2.2.2.2.1,r12.2.2.2.2.2.2.2)).bind fun r13 =>
 (Z2u (r13.1,r13.2.1,r13.2.2.1,r13.2.2.2.1,r13.2.2.2.2.1,r13.2.2.2.2.2.1,r13.2.2.2.2.2.2)).bind fun r14 =>
 some ((r14.1,r14.2.2.1,r14.2.2.2.1,r14.2.2.2.2.1,r14.2.2.2.2.2.1,r14.2.1),r14.2.2.2.2.2.2,(0:Int))
 else
 bif (r12.1.1 == ((((((((((((((((0:Nat)+(1:Nat))+(1:Nat))+(1:Nat))+(1:Nat))+(1:Nat))+(1:Nat))+(1:Nat))+(1:Nat))+(1:Nat))+(1:Nat))+(1:Nat))+(1:Nat))+(1:Nat)):Nat):Int)) then
 (Z2i (x.2,r12.1,r12.2.1,r12.2.2.1,r12.2.2.2.1,r12.2.2.2.2.1,r12.2.2.2.2.2.1,r12.2.2.2.2.2.2.1,r12.2.2.2.2.2.2.2)).bind fun r13 =>
 (Z2u (r13.1,r13.2.1,r13.2.2.1,r13.2.2.2.1,r13.2.2.2.2.1,r13.2.2.2.2.2.1,r13.2.2.2.2.2.2)).bind fun r14 =>
 some ((r14.1,r14.2.2.1,r14.2.2.2.1,r14.2.2.2.2.1,r14.2.2.2.2.2.1,r14.2.1),r14.2.2.2.2.2.2,(0:Int))
 else
 none
abbrev Zzs:=Spec.shp Zp2 Zuf Z1a
def Zex:Ctx:={ tb:=mkTb T2.tbl,fx:=[(22,[],Zzq),(59,[],Z13x),(60,[],Z13l),(61,[],Z13j),(62,[],Z13m),(63,[],Z13n),(78,[],Z108),(64,[],Z10c),(42,[],Z10k),(65,[],Z10j),(66,[],Z10h),(67,[],Z10n),(68,[],Z10i),(69,[],Z10a),(70,[],Z10q),(71,[],Z103),(72,[],Z105),(73,[],Z102),(74,[],Z10g),(75,[],Z10s),(76,[],Z109),(77,[],Z10e)],sum:=[],nt:=70,pin:=0,nr:=true,ys:=[] }
theorem Z1b:Sound Tryz.prog 23 (Zzs) :=
 Sound.shp (C:=Zex) (fn:=Tryz.f23) (by kernel_rfl) (c:=bodyOf Tryz.f23) (by kernel_rfl) (by decide) (ctxOK mixed tbl_ok rfl ⟨Z17,Z9q,Z92,Z8y,Z94,Z96,Z27,Z2f,Z30,Z2t,Z2p,Z32,Z2r,Z2b,Z38,Z1x,Z21,Z1v,Z2n,Z3c,Z29,Z2j,trivial⟩ trivial) (SumOK.of trivial) (by kernel_rfl) Zp2 Zuf rfl (by decide) (by decide) rfl (by decide) rfl Z1a (fun x=>by kernel_rfl)
def Zbk (x:T55):Option (T55 ⊕ (T47 × Int × Int × Int × List (T12))) :=
 bif (decide (x.2.2.1 < x.2.1)) then
 bif (inb x.2.2.1 (List.length x.1)) then
 bif (sub3 (0:Int) (Min.min (((List.length (getAt (([]:List T0),false) x.1 (toN x.2.2.1)).1):Nat):Int) (6:Int)) (List.length (getAt (([]:List T0),false) x.1 (toN x.2.2.1)).1)) then
 bif (fits ((List.length x.2.2.2.2.2.2.2)+(List.length (((cut (getAt (([]:List T0),false) x.1 (toN x.2.2.1)).1 (toN (0:Int)) ((toN (Min.min (((List.length (getAt (([]:List T0),false) x.1 (toN x.2.2.1)).1):Nat):Int) (6:Int))) - (toN (0:Int)))),(getAt (([]:List T0),false) x.1 (toN x.2.2.1)).2) :: ([]:List T21))))) then
 some (.inl (x.1,x.2.1,(IntKind.wrap .i64 (x.2.2.1+(1:Int))),x.2.2.2.1,x.2.2.2.2.1,x.2.2.2.2.2.1,x.2.2.2.2.2.2.1,(x.2.2.2.2.2.2.2++(((cut (getAt (([]:List T0),false) x.1 (toN x.2.2.1)).1 (toN (0:Int)) ((toN (Min.min (((List.length (getAt (([]:List T0),false) x.1 (toN x.2.2.1)).1):Nat):Int) (6:Int))) - (toN (0:Int)))),(getAt (([]:List T0),false) x.1 (toN x.2.2.1)).2) :: ([]:List T21)))))
 else
 none
 else
 none
 else
 none
 else
 some (.inr (x.2.2.2.1,x.2.2.2.2.1,x.2.2.2.2.2.1,x.2.2.2.2.2.2.1,x.2.2.2.2.2.2.2))
def Zbj (x:T59):Option (T59 ⊕ (T47 × Int × Int × Int × List (T12) × List (List (T7)))) :=
 bif (decide (x.2.2.1 < x.2.1)) then
 bif (inb x.2.2.1 (List.length x.1)) then
 bif (sub3 (0:Int) (Min.min (((List.length (getAt ([]:List T7) x.1 (toN x.2.2.1))):Nat):Int) (30:Int)) (List.length (getAt ([]:List T7) x.1 (toN x.2.2.1)))) then
 bif (fits ((List.length x.2.2.2.2.2.2.2.2)+(List.length ((cut (getAt ([]:List T7) x.1 (toN x.2.2.1)) (toN (0:Int)) ((toN (Min.min (((List.length (getAt ([]:List T7) x.1 (toN x.2.2.1))):Nat):Int) (30:Int))) - (toN (0:Int)))) :: ([]:List (List T7)))))) then
 some (.inl (x.1,x.2.1,(IntKind.wrap .i64 (x.2.2.1+(1:Int))),x.2.2.2.1,x.2.2.2.2.1,x.2.2.2.2.2.1,x.2.2.2.2.2.2.1,x.2.2.2.2.2.2.2.1,(x.2.2.2.2.2.2.2.2++((cut (getAt ([]:List T7) x.1 (toN x.2.2.1)) (toN (0:Int)) ((toN (Min.min (((List.length (getAt ([]:List T7) x.1 (toN x.2.2.1))):Nat):Int) (30:Int))) - (toN (0:Int)))) :: ([]:List (List T7))))))
 else
 none
 else
 none
 else
 none
 else
 some (.inr (x.2.2.2.1,x.2.2.2.2.1,x.2.2.2.2.2.1,x.2.2.2.2.2.2.1,x.2.2.2.2.2.2.2.1,x.2.2.2.2.2.2.2.2))
def Z3r (x:(T47)):Option (T47) :=
 bif (sub3 (0:Int) (Min.min (((List.length x.1):Nat):Int) (6:Int)) (List.length x.1)) then
 bif (sub3 (0:Int) (Min.min (((List.length x.2.2.2.2.1):Nat):Int) (6:Int)) (List.length x.2.2.2.2.1)) then
 (loop Zbk ((cut x.2.2.2.2.1 (toN (0:Int)) ((toN (Min.min (((List.length x.2.2.2.2.1):Nat):Int) (6:Int))) - (toN (0:Int)))),(((List.length (cut x.2.2.2.2.1 (toN (0:Int)) ((toN (Min.min (((List.length x.2.2.2.2.1):Nat):Int) (6:Int))) - (toN (0:Int))))):Nat):Int),(0:Int),((cut x.1 (toN (0:Int)) ((toN (Min.min (((List.length x.1):Nat):Int) (6:Int))) - (toN (0:Int)))),x.2),(0:Int),(0:Int),(0:Int),([]:List T21))).bind fun r2 =>
 bif (sub3 (0:Int) (Min.min (((List.length r2.1.2.2.2.2.2):Nat):Int) (8:Int)) (List.length r2.1.2.2.2.2.2)) then
 (loop Zbj ((cut r2.1.2.2.2.2.2 (toN (0:Int)) ((toN (Min.min (((List.length r2.1.2.2.2.2.2):Nat):Int) (8:Int))) - (toN (0:Int)))),(((List.length (cut r2.1.2.2.2.2.2 (toN (0:Int)) ((toN (Min.min (((List.length r2.1.2.2.2.2.2):Nat):Int) (8:Int))) - (toN (0:Int))))):Nat):Int),(0:Int),r2.1,r2.2.1,r2.2.2.1,r2.2.2.2.1,r2.2.2.2.2,([]:List (List T7)))).bind fun r3 =>
 some (r3.1.1,r3.1.2.1,r3.1.2.2.1,r3.1.2.2.2.1,r3.2.2.2.2.1,r3.2.2.2.2.2)
 else
 none
 else
 none
 else
 none
abbrev Zql:Shape:={ sl:=sl_6,bl:=[],ts:=[y39],pin:=0 }
abbrev Zvy:Shape:={ sl:=sl_1,bl:=[],ts:=ts_1,pin:=0 }
def Z4f (x:(T47)):Option (Bool) :=
 bif (decide ((((List.length x.1):Nat):Int) > (4:Int))) then
 some true
 else
 bif (decide (x.2.1 < (0:Int))) then
 some true
 else
 bif (decide (x.2.1 > (2:Int))) then
 some true
 else
 bif (decide (x.2.2.1 < (0:Int))) then
 some true
 else
 bif (decide (x.2.2.1 > (2:Int))) then
 some true
 else
 bif (decide (x.2.2.2.1 < (0:Int))) then
 some true
 else
 bif (decide (x.2.2.2.1 > (4:Int))) then
 some true
 else
 bif (decide ((((List.length x.2.2.2.2.1):Nat):Int) > (4:Int))) then
 some true
 else
 bif (decide ((((List.length x.2.2.2.2.2):Nat):Int) < (1:Int))) then
 some true
 else
 some (decide ((((List.length x.2.2.2.2.2):Nat):Int) > (6:Int)))
abbrev Z11b:=Spec.shp Zql Zvy Z4f
def Zgx:Ctx:={ tb:=mkTb T2.tbl,fx:=[],sum:=[],nt:=55,pin:=0,nr:=true,ys:=[] }
theorem Z4g:Sound Tryz.prog 157 (Z11b) :=
 Sound.shp (C:=Zgx) (fn:=Tryz.f157) (by kernel_rfl) (c:=bodyOf Tryz.f157) (by kernel_rfl) (by decide) (ctxOK mixed tbl_ok rfl trivial trivial) (SumOK.of trivial) (by kernel_rfl) Zql Zvy rfl (by decide) (by decide) rfl (by decide) rfl Z4f (fun x=>by kernel_rfl)
abbrev Znf:Shape:={ sl:=[(1,(.ptr 0 [])),(13,(.hole y0)),(14,(.hole (.int .i64))),(15,(.hole (.int .i64)))],bl:=bl_0,ts:=[y0,(.int .i64),(.int .i64),y39],pin:=0 }
abbrev Zlt:List (ETag × Shape):=[(.ret,{ sl:=sl_5,bl:=[],ts:=ts_5,pin:=0 }),(.exit 0,{ sl:=[(1,(.ptr 0 []))],bl:=bl_0,ts:=[y39],pin:=0 })]
def Zc6 (x:(List Int × Int × Int × T47)):Option ((List Int × Int × Int × T47) ⊕ ((Int × Int) ⊕ (T47))) :=
 bif (decide (x.2.2.1 < x.2.1)) then
 bif (inb x.2.2.1 (List.length x.1)) then
 bif (decide ((getAt (0:Int) x.1 (toN x.2.2.1)) < (Int.negSucc 0))) then
 some (.inr (.inl ((Int.negSucc 0),(3:Int))))
 else
 bif (decide ((getAt (0:Int) x.1 (toN x.2.2.1)) > (3:Int))) then
 some (.inr (.inl ((Int.negSucc 0),(3:Int))))
 else
 some (.inl (x.1,x.2.1,(IntKind.wrap .i64 (x.2.2.1+(1:Int))),x.2.2.2))
 else
 none
 else
 some (.inr (.inr x.2.2.2))
def Zh1:Ctx:={ tb:=mkTb T2.tbl,fx:=[(157,[],Z11b)],sum:=[],nt:=60,pin:=0,nr:=true,ys:=[] }
theorem Zc7:CSound Tryz.prog ⟨60,0,true⟩ (.loop (loopOf 5 Tryz.f97)) (Yay Znf Zlt (loop Zc6)) :=
 Y8c (C:=Zh1) (ctxOK mixed tbl_ok rfl ⟨Z4g,trivial⟩ trivial) (SumOK.of trivial) Znf Zlt rfl rfl Zc6 (fun x=>by kernel_rfl)
abbrev Zne:Shape:={ sl:=[(1,(.ptr 0 [])),(6,(.hole (.int .i64))),(27,(.hole (.slice y9))),(28,(.hole (.int .i64))),(29,(.hole (.int .i64))),(40,(.hole (.slice y2))),(41,(.hole (.int .i64))),(42,(.hole (.int .i64)))],bl:=bl_0,ts:=[(.int .i64),(.slice y9),(.int .i64),(.int .i64),(.slice y2),(.int .i64),(.int .i64),y39],pin:=0 }
abbrev Zls:List (ETag × Shape):=[(.ret,{ sl:=sl_5,bl:=[],ts:=ts_5,pin:=0 }),(.exit 4,{ sl:=sl_34,bl:=bl_0,ts:=ts_4,pin:=0 })]
def Zc4 (x:(Int × List (T12) × Int × Int × List T0 × Int × Int × T47)):Option ((Int × List (T12) × Int × Int × List T0 × Int × Int × T47) ⊕ ((Int × Int) ⊕ T53)) :=
 bif (decide (x.2.2.2.2.2.2.1 < x.2.2.2.2.2.1)) then
 bif (inb x.2.2.2.2.2.2.1 (List.length x.2.2.2.2.1)) then
 bif (decide ((getAt (false,(0:Int)) x.2.2.2.2.1 (toN x.2.2.2.2.2.2.1)).2 < (0:Int))) then
 some (.inr (.inl (x.1,(3:Int))))
 else
 bif (decide ((getAt (false,(0:Int)) x.2.2.2.2.1 (toN x.2.2.2.2.2.2.1)).2 ≥ (((List.length x.2.2.2.2.2.2.2.1):Nat):Int))) then
 some (.inr (.inl (x.1,(3:Int))))
 else
 some (.inl (x.1,x.2.1,x.2.2.1,x.2.2.2.1,x.2.2.2.2.1,x.2.2.2.2.2.1,(IntKind.wrap .i64 (x.2.2.2.2.2.2.1+(1:Int))),x.2.2.2.2.2.2.2))
 else
 none
 else
 some (.inr (.inr (x.2.1,x.2.2.1,x.2.2.2.1,x.2.2.2.2.2.2.2)))
def Zh0:Ctx:={ tb:=mkTb T2.tbl,fx:=[(157,[],Z11b)],sum:=[(0,5,Yay Znf Zlt (loop Zc6))],nt:=60,pin:=0,nr:=true,ys:=[] }
theorem Zc5:CSound Tryz.prog ⟨60,0,true⟩ (.loop (loopOf 16 Tryz.f97)) (Yay Zne Zls (loop Zc4)) :=
 Y8c (C:=Zh0) (ctxOK mixed tbl_ok rfl ⟨Z4g,trivial⟩ trivial) (SumOK.of ⟨(Yaz (by kernel_rfl)),trivial⟩) Zne Zls rfl rfl Zc4 (fun x=>by kernel_rfl)
abbrev Znd:Shape:={ sl:=sl_34,bl:=bl_0,ts:=ts_4,pin:=0 }
abbrev Zlr:List (ETag × Shape):=[(.ret,{ sl:=sl_5,bl:=[],ts:=ts_5,pin:=0 }),(.exit 2,{ sl:=[],bl:=[],ts:=[],pin:=0 })]
def Zc2 (x:T53):Option (T53 ⊕ ((Int × Int) ⊕ Unit)) :=
 bif (decide (x.2.2.1 < x.2.1)) then
 bif (inb x.2.2.1 (List.length x.1)) then
 bif (decide ((((List.length (getAt (([]:List T0),false) x.1 (toN x.2.2.1)).1):Nat):Int) > (4:Int))) then
 some (.inr (.inl (x.2.2.1,(2:Int))))
 else
 (loop Zc4 (x.2.2.1,x.1,x.2.1,x.2.2.1,(getAt (([]:List T0),false) x.1 (toN x.2.2.1)).1,(((List.length (getAt (([]:List T0),false) x.1 (toN x.2.2.1)).1):Nat):Int),(0:Int),x.2.2.2)).bind fun r10 =>
 match r10 with
 | .inl y11 =>
 some (.inr (.inl (y11.1,y11.2)))
 | .inr y11 =>
 some (.inl (y11.1,y11.2.1,(IntKind.wrap .i64 (y11.2.2.1+(1:Int))),y11.2.2.2))
 else
 none
 else
 some (.inr (.inr ()))
def Zgz:Ctx:={ tb:=mkTb T2.tbl,fx:=[(157,[],Z11b)],sum:=[(0,5,Yay Znf Zlt (loop Zc6)),(0,16,Yay Zne Zls (loop Zc4))],nt:=60,pin:=0,nr:=true,ys:=[] }
theorem Zc3:CSound Tryz.prog ⟨60,0,true⟩ (.loop (loopOf 11 Tryz.f97)) (Yay Znd Zlr (loop Zc2)) :=
 Y8c (C:=Zgz) (ctxOK mixed tbl_ok rfl ⟨Z4g,trivial⟩ trivial) (SumOK.of ⟨(Yaz (by kernel_rfl)),(Yb0 (d:=.loop (loopOf 16 Tryz.f97)) (by kernel_rfl) Zc5),trivial⟩) Znd Zlr rfl rfl Zc2 (fun x=>by kernel_rfl)
abbrev Zqm:Shape:={ sl:=sl_6,bl:=[],ts:=[y39],pin:=0 }
abbrev Zvz:Shape:={ sl:=sl_7,bl:=[],ts:=ts_5,pin:=0 }
def Z4h (x:(T47)):Option (Int × Int) :=
 (Z4f x).bind fun r6 =>
 bif r6 then
 some ((Int.negSucc 0),(2:Int))
 else
 (loop Zc6 (x.1,(((List.length x.1):Nat):Int),(0:Int),x)).bind fun r7 =>
 match r7 with
 | .inl y8 =>
 some (y8.1,y8.2)
 | .inr y8 =>
 (loop Zc2 (y8.2.2.2.2.1,(((List.length y8.2.2.2.2.1):Nat):Int),(0:Int),y8)).bind fun r9 =>
 match r9 with
 | .inl y10 =>
 some (y10.1,y10.2)
 | .inr y10 =>
 some ((Int.negSucc 0),(0:Int))
abbrev Z11c:=Spec.shp Zqm Zvz Z4h
def Zgy:Ctx:={ tb:=mkTb T2.tbl,fx:=[(157,[],Z11b)],sum:=[(0,5,Yay Znf Zlt (loop Zc6)),(0,16,Yay Zne Zls (loop Zc4)),(0,11,Yay Znd Zlr (loop Zc2))],nt:=60,pin:=0,nr:=true,ys:=[] }
theorem Z4i:Sound Tryz.prog 97 (Z11c) :=
 Sound.shp (C:=Zgy) (fn:=Tryz.f97) (by kernel_rfl) (c:=bodyOf Tryz.f97) (by kernel_rfl) (by decide) (ctxOK mixed tbl_ok rfl ⟨Z4g,trivial⟩ trivial) (SumOK.of ⟨(Yb0 (d:=.loop (loopOf 5 Tryz.f97)) (by kernel_rfl) Zc7),(Yb0 (d:=.loop (loopOf 16 Tryz.f97)) (by kernel_rfl) Zc5),(Yb0 (d:=.loop (loopOf 11 Tryz.f97)) (by kernel_rfl) Zc3),trivial⟩) (by kernel_rfl) Zqm Zvz rfl (by decide) (by decide) rfl (by decide) rfl Z4h (fun x=>by kernel_rfl)
abbrev Zqk:Shape:={ sl:=[(0,(.hole y39)),(1,(.hole (.int .i64))),(2,(.hole (.slice y5)))],bl:=[],ts:=[y39,(.int .i64),(.slice y5)],pin:=0 }
abbrev Zvx:Shape:={ sl:=sl_2,bl:=[],ts:=ts_2,pin:=0 }
def Z4d (x:(T47 × Int × List (T7))):Option (Int) :=
 bif (decide (x.2.1 ≥ (1:Int))) then
 bif (decide (x.2.1 ≤ (3:Int))) then
 some (((List.length x.1.1):Nat):Int)
 else
 bif (x.2.1 == (4:Int)) then
 some (((List.length x.1.2.2.2.2.1):Nat):Int)
 else
 bif (x.2.1 == (5:Int)) then
 some x.1.2.1
 else
 bif (x.2.1 == (6:Int)) then
 some x.1.2.1
 else
 bif (x.2.1 == (7:Int)) then
 some x.1.2.2.1
 else
 bif (x.2.1 == (8:Int)) then
 some x.1.2.2.1
 else
 bif (x.2.1 == (9:Int)) then
 some (((List.length x.1.2.2.2.2.2):Nat):Int)
 else
 bif (x.2.1 == (10:Int)) then
 some x.1.2.2.2.1
 else
 bif (x.2.1 == (11:Int)) then
 some x.1.2.2.2.1
 else
 bif (decide (x.2.1 ≥ (12:Int))) then
 some (IntKind.wrap .i64 ((((List.length x.2.2):Nat):Int)+(1:Int)))
 else
 some (1:Int)
 else
 bif (x.2.1 == (4:Int)) then
 some (((List.length x.1.2.2.2.2.1):Nat):Int)
 else
 bif (x.2.1 == (5:Int)) then
 some x.1.2.1
 else
 bif (x.2.1 == (6:Int)) then
 some x.1.2.1
 else
 bif (x.2.1 == (7:Int)) then
 some x.1.2.2.1
 else
 bif (x.2.1 == (8:Int)) then
 some x.1.2.2.1
 else
 bif (x.2.1 == (9:Int)) then
 some (((List.length x.1.2.2.2.2.2):Nat):Int)
 else
 bif (x.2.1 == (10:Int)) then
 some x.1.2.2.2.1
 else
 bif (x.2.1 == (11:Int)) then
 some x.1.2.2.2.1
 else
 bif (decide (x.2.1 ≥ (12:Int))) then
 some (IntKind.wrap .i64 ((((List.length x.2.2):Nat):Int)+(1:Int)))
 else
 some (1:Int)
abbrev Z11a:=Spec.shp Zqk Zvx Z4d
def Zgw:Ctx:={ tb:=mkTb T2.tbl,fx:=[],sum:=[],nt:=55,pin:=0,nr:=true,ys:=[] }
theorem Z4e:Sound Tryz.prog 158 (Z11a) :=
 Sound.shp (C:=Zgw) (fn:=Tryz.f158) (by kernel_rfl) (c:=bodyOf Tryz.f158) (by kernel_rfl) (by decide) (ctxOK mixed tbl_ok rfl trivial trivial) (SumOK.of trivial) (by kernel_rfl) Zqk Zvx rfl (by decide) (by decide) rfl (by decide) rfl Z4d (fun x=>by kernel_rfl)
abbrev Zqj:Shape:={ sl:=[(0,(.hole y39)),(1,(.hole (.slice y5))),(2,(.hole y5))],bl:=[],ts:=[y39,(.slice y5),y5],pin:=0 }
abbrev Zvw:Shape:={ sl:=sl_2,bl:=[],ts:=ts_2,pin:=0 }
def Z4b (x:(T47 × List (T7) × T7)):Option (Int) :=
 bif (decide (x.2.2.1 < (0:Int))) then
 some (11:Int)
 else
 bif (decide (x.2.2.1 > (13:Int))) then
 some (11:Int)
 else
 bif (decide (x.2.2.2.1 < (0:Int))) then
 some (3:Int)
 else
 (Z4d (x.1,x.2.2.1,x.2.1)).bind fun r9 =>
 bif (decide (x.2.2.2.1 ≥ r9)) then
 some (3:Int)
 else
 bif (decide (x.2.2.2.2 < (0:Int))) then
 some (3:Int)
 else
 bif (x.2.2.1 == (7:Int)) then
 bif (decide (x.2.2.2.2 > (((List.length x.2.1):Nat):Int))) then
 some (3:Int)
 else
 bif (x.2.2.1 != (7:Int)) then
 bif (x.2.2.2.2 != (0:Int)) then
 some (3:Int)
 else
 some (0:Int)
 else
 some (0:Int)
 else
 bif (x.2.2.1 != (7:Int)) then
 bif (x.2.2.2.2 != (0:Int)) then
 some (3:Int)
 else
 some (0:Int)
 else
 some (0:Int)
abbrev Z119:=Spec.shp Zqj Zvw Z4b
def Zgv:Ctx:={ tb:=mkTb T2.tbl,fx:=[(158,[],Z11a)],sum:=[],nt:=53,pin:=0,nr:=true,ys:=[] }
theorem Z4c:Sound Tryz.prog 98 (Z119) :=
 Sound.shp (C:=Zgv) (fn:=Tryz.f98) (by kernel_rfl) (c:=bodyOf Tryz.f98) (by kernel_rfl) (by decide) (ctxOK mixed tbl_ok rfl ⟨Z4e,trivial⟩ trivial) (SumOK.of trivial) (by kernel_rfl) Zqj Zvw rfl (by decide) (by decide) rfl (by decide) rfl Z4b (fun x=>by kernel_rfl)
abbrev Znb:Shape:={ sl:=sl_9,bl:=bl_0,ts:=ts_7,pin:=0 }
abbrev Zlp:List (ETag × Shape):=[(.ret,{ sl:=sl_10,bl:=[],ts:=ts_0,pin:=0 }),(.exit 2,{ sl:=sl_11,bl:=bl_0,ts:=ts_8,pin:=0 })]
def Zby (x:T56):Option (T56 ⊕ (T4 ⊕ T54)) :=
 bif (decide (x.2.2.2.2.2.2.2.1 < x.2.2.2.2.2.2.1)) then
 bif (inb x.2.2.2.2.2.2.2.1 (List.length x.2.2.2.2.2.1)) then
 (Z4b (x.2.2.2.2.2.2.2.2,x.2.1,(getAt ((0:Int),(0:Int),(0:Int)) x.2.2.2.2.2.1 (toN x.2.2.2.2.2.2.2.1)))).bind fun r8 =>
 bif (r8 != (0:Int)) then
 some (.inr (.inl (x.1,x.2.2.2.2.2.2.2.1,r8)))
 else
 some (.inl (x.1,x.2.1,x.2.2.1,x.2.2.2.1,x.2.2.2.2.1,x.2.2.2.2.2.1,x.2.2.2.2.2.2.1,(IntKind.wrap .i64 (x.2.2.2.2.2.2.2.1+(1:Int))),x.2.2.2.2.2.2.2.2))
 else
 none
 else
 some (.inr (.inr (x.2.2.1,x.2.2.2.1,x.2.2.2.2.1,x.2.2.2.2.2.2.2.2)))
def Zgt:Ctx:={ tb:=mkTb T2.tbl,fx:=[(97,[],Z11c),(98,[],Z119)],sum:=[],nt:=51,pin:=0,nr:=true,ys:=[] }
theorem Zbz:CSound Tryz.prog ⟨51,0,true⟩ (.loop (loopOf 11 Tryz.f43)) (Yay Znb Zlp (loop Zby)) :=
 Y8c (C:=Zgt) (ctxOK mixed tbl_ok rfl ⟨Z4i,Z4c,trivial⟩ trivial) (SumOK.of trivial) Znb Zlp rfl rfl Zby (fun x=>by kernel_rfl)
abbrev Znc:Shape:={ sl:=sl_11,bl:=bl_0,ts:=ts_8,pin:=0 }
abbrev Zlq:List (ETag × Shape):=[(.ret,{ sl:=sl_10,bl:=[],ts:=ts_0,pin:=0 }),(.exit 0,{ sl:=[],bl:=[],ts:=[],pin:=0 })]
def Zc0 (x:T54):Option (T54 ⊕ (T4 ⊕ Unit)) :=
 bif (decide (x.2.2.1 < x.2.1)) then
 bif (inb x.2.2.1 (List.length x.1)) then
 bif (decide ((((List.length (getAt ([]:List T7) x.1 (toN x.2.2.1))):Nat):Int) > (24:Int))) then
 some (.inr (.inl (x.2.2.1,(Int.negSucc 0),(2:Int))))
 else
 (loop Zby (x.2.2.1,(getAt ([]:List T7) x.1 (toN x.2.2.1)),x.1,x.2.1,x.2.2.1,(getAt ([]:List T7) x.1 (toN x.2.2.1)),(((List.length (getAt ([]:List T7) x.1 (toN x.2.2.1))):Nat):Int),(0:Int),x.2.2.2)).bind fun r7 =>
 match r7 with
 | .inl y8 =>
 some (.inr (.inl (y8.1,y8.2.1,y8.2.2)))
 | .inr y8 =>
 some (.inl (y8.1,y8.2.1,(IntKind.wrap .i64 (y8.2.2.1+(1:Int))),y8.2.2.2))
 else
 none
 else
 some (.inr (.inr ()))
def Zgu:Ctx:={ tb:=mkTb T2.tbl,fx:=[(97,[],Z11c),(98,[],Z119)],sum:=[(0,11,Yay Znb Zlp (loop Zby))],nt:=51,pin:=0,nr:=true,ys:=[] }
theorem Zc1:CSound Tryz.prog ⟨51,0,true⟩ (.loop (loopOf 6 Tryz.f43)) (Yay Znc Zlq (loop Zc0)) :=
 Y8c (C:=Zgu) (ctxOK mixed tbl_ok rfl ⟨Z4i,Z4c,trivial⟩ trivial) (SumOK.of ⟨(Yb0 (d:=.loop (loopOf 11 Tryz.f43)) (by kernel_rfl) Zbz),trivial⟩) Znc Zlq rfl rfl Zc0 (fun x=>by kernel_rfl)
abbrev Zqi:Shape:={ sl:=sl_6,bl:=[],ts:=[y39],pin:=0 }
abbrev Zvv:Shape:={ sl:=sl_0,bl:=[],ts:=ts_0,pin:=0 }
def Z49 (x:(T47)):Option T4 :=
 (Z4h x).bind fun r5 =>
 bif (r5.2 != (0:Int)) then
 some ((Int.negSucc 0),r5.1,r5.2)
 else
 (loop Zc0 (x.2.2.2.2.2,(((List.length x.2.2.2.2.2):Nat):Int),(0:Int),x)).bind fun r6 =>
 match r6 with
 | .inl y7 =>
 some (y7.1,y7.2.1,y7.2.2)
 | .inr y7 =>
 some ((Int.negSucc 0),(Int.negSucc 0),(0:Int))
abbrev Z118:=Spec.shp Zqi Zvv Z49
def Zgs:Ctx:={ tb:=mkTb T2.tbl,fx:=[(97,[],Z11c),(98,[],Z119)],sum:=[(0,11,Yay Znb Zlp (loop Zby)),(0,6,Yay Znc Zlq (loop Zc0))],nt:=51,pin:=0,nr:=true,ys:=[] }
theorem Z4a:Sound Tryz.prog 43 (Z118) :=
 Sound.shp (C:=Zgs) (fn:=Tryz.f43) (by kernel_rfl) (c:=bodyOf Tryz.f43) (by kernel_rfl) (by decide) (ctxOK mixed tbl_ok rfl ⟨Z4i,Z4c,trivial⟩ trivial) (SumOK.of ⟨(Yb0 (d:=.loop (loopOf 11 Tryz.f43)) (by kernel_rfl) Zbz),(Yb0 (d:=.loop (loopOf 6 Tryz.f43)) (by kernel_rfl) Zc1),trivial⟩) (by kernel_rfl) Zqi Zvv rfl (by decide) (by decide) rfl (by decide) rfl Z49 (fun x=>by kernel_rfl)
abbrev Zqh:Shape:={ sl:=sl_6,bl:=[],ts:=[y39],pin:=0 }
abbrev Zvu:Shape:={ sl:=sl_1,bl:=[],ts:=ts_1,pin:=0 }
def Z47 (x:(T47)):Option (Bool) :=
 (Z49 x).bind fun r4 =>
 some (r4.2.2 == (0:Int))
abbrev Z117:=Spec.shp Zqh Zvu Z47
def Zgr:Ctx:={ tb:=mkTb T2.tbl,fx:=[(43,[],Z118)],sum:=[],nt:=14,pin:=0,nr:=true,ys:=[] }
theorem Z48:Sound Tryz.prog 15 (Z117) :=
 Sound.shp (C:=Zgr) (fn:=Tryz.f15) (by kernel_rfl) (c:=bodyOf Tryz.f15) (by kernel_rfl) (by decide) (ctxOK mixed tbl_ok rfl ⟨Z4a,trivial⟩ trivial) (SumOK.of trivial) (by kernel_rfl) Zqh Zvu rfl (by decide) (by decide) rfl (by decide) rfl Z47 (fun x=>by kernel_rfl)
def Zbx (x:T26):Option (T26 ⊕ ((Bool) ⊕ Unit)) :=
 bif (decide (x.2.2.2 < x.2.2.1)) then
 bif (inb x.2.2.2 (List.length x.1)) then
 bif (inb x.2.2.2 (List.length x.2.1)) then
 bif (Bool.not (((getAt ((0:Int),(0:Int),(0:Int)) x.1 (toN x.2.2.2)).1 == (getAt ((0:Int),(0:Int),(0:Int)) x.2.1 (toN x.2.2.2)).1) && (((getAt ((0:Int),(0:Int),(0:Int)) x.1 (toN x.2.2.2)).2.1 == (getAt ((0:Int),(0:Int),(0:Int)) x.2.1 (toN x.2.2.2)).2.1) && ((getAt ((0:Int),(0:Int),(0:Int)) x.1 (toN x.2.2.2)).2.2 == (getAt ((0:Int),(0:Int),(0:Int)) x.2.1 (toN x.2.2.2)).2.2)))) then
 some (.inr (.inl false))
 else
 some (.inl (x.1,x.2.1,x.2.2.1,(IntKind.wrap .i64 (x.2.2.2+(1:Int)))))
 else
 none
 else
 none
 else
 some (.inr (.inr ()))
def Z46 (x:T24):Option (Bool) :=
 bif ((((List.length x.1):Nat):Int) != (((List.length x.2):Nat):Int)) then
 some false
 else
 (loop Zbx (x.1,x.2,(((List.length x.1):Nat):Int),(0:Int))).bind fun r11 =>
 match r11 with
 | .inl y12 =>
 some y12
 | .inr y12 =>
 some true
abbrev Zng:Shape:={ sl:=[(0,(.hole (.int .i64))),(2,(.ptr 0 [])),(3,(.ptr 1 [])),(4,(.hole (.int .i64)))],bl:=bl_21,ts:=[(.int .i64),(.int .i64),(.int .i64),.bool,(.int .i64),(.int .i64),(.int .i64),(.int .i64),(.int .i64),(.int .i64),.bool,(.int .i64),(.int .i64),(.int .i64),(.int .i64),(.int .i64),y0],pin:=0 }
abbrev Zlu:List (ETag × Shape):=[(.exit 0,{ sl:=sl_37,bl:=bl_21,ts:=[(.int .i64),.bool,(.int .i64),(.int .i64),(.int .i64),(.int .i64),(.int .i64),(.int .i64),.bool,(.int .i64),(.int .i64),(.int .i64),(.int .i64),(.int .i64),y0],pin:=0 })]
def Zc8 (x:(Int × Int × Int × Bool × Int × Int × Int × Int × Int × Int × Bool × Int × Int × Int × Int × Int × List Int)):Option ((Int × Int × Int × Bool × Int × Int × Int × Int × Int × Int × Bool × Int × Int × Int × Int × Int × List Int) ⊕ (Int × Bool × Int × Int × Int × Int × Int × Int × Bool × Int × Int × Int × Int × Int × List Int)) :=
 bif (decide (x.2.1 < x.1)) then
 bif (fits ((List.length x.2.2.2.2.2.2.2.2.2.2.2.2.2.2.2.2)+(List.length ((0:Int) :: ([]:List Int))))) then
 some (.inl (x.1,(IntKind.wrap .i64 (x.2.1+(1:Int))),x.2.2.1,x.2.2.2.1,x.2.2.2.2.1,x.2.2.2.2.2.1,x.2.2.2.2.2.2.1,x.2.2.2.2.2.2.2.1,x.2.2.2.2.2.2.2.2.1,x.2.2.2.2.2.2.2.2.2.1,x.2.2.2.2.2.2.2.2.2.2.1,x.2.2.2.2.2.2.2.2.2.2.2.1,x.2.2.2.2.2.2.2.2.2.2.2.2.1,x.2.2.2.2.2.2.2.2.2.2.2.2.2.1,x.2.2.2.2.2.2.2.2.2.2.2.2.2.2.1,x.2.2.2.2.2.2.2.2.2.2.2.2.2.2.2.1,(x.2.2.2.2.2.2.2.2.2.2.2.2.2.2.2.2++((0:Int) :: ([]:List Int)))))
 else
 none
 else
 some (.inr (x.2.2.1,x.2.2.2.1,x.2.2.2.2.1,x.2.2.2.2.2.1,x.2.2.2.2.2.2.1,x.2.2.2.2.2.2.2.1,x.2.2.2.2.2.2.2.2.1,x.2.2.2.2.2.2.2.2.2.1,x.2.2.2.2.2.2.2.2.2.2.1,x.2.2.2.2.2.2.2.2.2.2.2.1,x.2.2.2.2.2.2.2.2.2.2.2.2.1,x.2.2.2.2.2.2.2.2.2.2.2.2.2.1,x.2.2.2.2.2.2.2.2.2.2.2.2.2.2.1,x.2.2.2.2.2.2.2.2.2.2.2.2.2.2.2.1,x.2.2.2.2.2.2.2.2.2.2.2.2.2.2.2.2))
def Zh5:Ctx:={ tb:=mkTb T2.tbl,fx:=[],sum:=[],nt:=23,pin:=0,nr:=true,ys:=[] }
theorem Zc9:CSound Tryz.prog ⟨23,0,true⟩ (.loop (loopOf 4 Tryz.f50)) (Yay Zng Zlu (loop Zc8)) :=
 Y8c (C:=Zh5) (ctxOK mixed tbl_ok rfl trivial trivial) (SumOK.of trivial) Zng Zlu rfl rfl Zc8 (fun x=>by kernel_rfl)
abbrev Zqp:Shape:={ sl:=sl_2,bl:=[],ts:=ts_2,pin:=0 }
abbrev Zw2:Shape:={ sl:=[(0,(.hole y40))],bl:=[],ts:=[y40],pin:=0 }
def Z4n (x:(Int)):Option T43 :=
 (loop Zc8 (x,(0:Int),(0:Int),false,(0:Int),(0:Int),(0:Int),(0:Int),(0:Int),x,false,(Max.max x (0:Int)),(0:Int),(0:Int),(0:Int),(0:Int),([]:List Int))).bind fun r7 =>
 some (r7.2.2.2.2.2.2.2.1,r7.2.2.2.2.2.2.2.2.1,(r7.2.2.2.2.2.2.2.2.2.1,r7.2.2.2.2.2.2.2.2.2.2.1,r7.2.2.2.2.2.2.2.2.2.2.2.2.2.2,r7.2.2.2.2.2.2.2.2.2.2.2.1),r7.2.2.2.2.2.2.2.2.2.2.2.2.1,r7.2.2.2.2.2.2.2.2.2.2.2.2.2.1,([]:List T7),([]:List T7))
abbrev Z11f:=Spec.shp Zqp Zw2 Z4n
def Zh4:Ctx:={ tb:=mkTb T2.tbl,fx:=[],sum:=[(0,4,Yay Zng Zlu (loop Zc8))],nt:=23,pin:=0,nr:=true,ys:=[] }
theorem Z4o:Sound Tryz.prog 50 (Z11f) :=
 Sound.shp (C:=Zh4) (fn:=Tryz.f50) (by kernel_rfl) (c:=bodyOf Tryz.f50) (by kernel_rfl) (by decide) (ctxOK mixed tbl_ok rfl trivial trivial) (SumOK.of ⟨(Yb0 (d:=.loop (loopOf 4 Tryz.f50)) (by kernel_rfl) Zc9),trivial⟩) (by kernel_rfl) Zqp Zw2 rfl (by decide) (by decide) rfl (by decide) rfl Z4n (fun x=>by kernel_rfl)
abbrev Znl:Shape:={ sl:=[(1,(.ptr 0 [])),(2,(.ptr 1 [])),(4,(.ptr 2 [])),(15,(.hole y0)),(16,(.hole (.int .i64))),(17,(.hole (.int .i64)))],bl:=bl_22,ts:=[y0,(.int .i64),(.int .i64),y39,(.int .i64),(.int .i64),(.int .i64),y4,y39,y4,y18,y41],pin:=0 }
abbrev Zlz:List (ETag × Shape):=[(.exit 0,{ sl:=[(1,(.ptr 0 [])),(2,(.ptr 1 [])),(4,(.ptr 2 []))],bl:=bl_22,ts:=[y39,(.int .i64),(.int .i64),(.int .i64),y4,y39,y4,y18,y41],pin:=0 })]
def Zci (x:(List Int × Int × Int × T47 × Int × Int × Int × (Int × Int) × T47 × (Int × Int) × List (T17) × List T43)):Option ((List Int × Int × Int × T47 × Int × Int × Int × (Int × Int) × T47 × (Int × Int) × List (T17) × List T43) ⊕ (T47 × Int × Int × Int × (Int × Int) × T47 × (Int × Int) × List (T17) × List T43)) :=
 bif (decide (x.2.2.1 < x.2.1)) then
 bif (inb x.2.2.1 (List.length x.1)) then
 (Z4n (getAt (0:Int) x.1 (toN x.2.2.1))).bind fun r6 =>
 bif (fits ((List.length x.2.2.2.2.2.2.2.2.2.2.2)+(List.length (r6 :: ([]:List (Int × T41)))))) then
 some (.inl (x.1,x.2.1,(IntKind.wrap .i64 (x.2.2.1+(1:Int))),x.2.2.2.1,x.2.2.2.2.1,x.2.2.2.2.2.1,x.2.2.2.2.2.2.1,x.2.2.2.2.2.2.2.1,x.2.2.2.2.2.2.2.2.1,x.2.2.2.2.2.2.2.2.2.1,x.2.2.2.2.2.2.2.2.2.2.1,(x.2.2.2.2.2.2.2.2.2.2.2++(r6 :: ([]:List (Int × T41))))))
 else
 none
 else
 none
 else
 some (.inr (x.2.2.2.1,x.2.2.2.2.1,x.2.2.2.2.2.1,x.2.2.2.2.2.2.1,x.2.2.2.2.2.2.2.1,x.2.2.2.2.2.2.2.2.1,x.2.2.2.2.2.2.2.2.2.1,x.2.2.2.2.2.2.2.2.2.2.1,x.2.2.2.2.2.2.2.2.2.2.2))
def Zho:Ctx:={ tb:=mkTb T2.tbl,fx:=[(50,[],Z11f)],sum:=[],nt:=63,pin:=0,nr:=true,ys:=[] }
theorem Zcj:CSound Tryz.prog ⟨63,0,true⟩ (.loop (loopOf 4 Tryz.f18)) (Yay Znl Zlz (loop Zci)) :=
 Y8c (C:=Zho) (ctxOK mixed tbl_ok rfl ⟨Z4o,trivial⟩ trivial) (SumOK.of trivial) Znl Zlz rfl rfl Zci (fun x=>by kernel_rfl)
abbrev Znm:Shape:={ sl:=[(1,(.ptr 0 [])),(2,(.ptr 1 [])),(4,(.ptr 2 [])),(7,(.hole (.int .i64)))],bl:=bl_23,ts:=[(.int .i64),y39,(.int .i64),(.int .i64),(.int .i64),y4,y39,y4,y18,y41,y19],pin:=0 }
abbrev Zm0:List (ETag × Shape):=[(.exit 2,{ sl:=[(1,(.ptr 0 [])),(2,(.ptr 1 [])),(4,(.ptr 2 []))],bl:=bl_23,ts:=[y39,(.int .i64),(.int .i64),(.int .i64),y4,y39,y4,y18,y41,y19],pin:=0 })]
def Zck (x:(Int × T47 × Int × Int × Int × (Int × Int) × T47 × (Int × Int) × List (T17) × List T43 × List (T18))):Option ((Int × T47 × Int × Int × Int × (Int × Int) × T47 × (Int × Int) × List (T17) × List T43 × List (T18)) ⊕ (T47 × Int × Int × Int × (Int × Int) × T47 × (Int × Int) × List (T17) × List T43 × List (T18))) :=
 bif (decide (x.1 < x.2.1.2.1)) then
 bif (fits ((List.length x.2.2.2.2.2.2.2.2.2.2)+(List.length ((false,([]:List T7)) :: ([]:List T22))))) then
 some (.inl ((IntKind.wrap .i64 (x.1+(1:Int))),x.2.1,x.2.2.1,x.2.2.2.1,x.2.2.2.2.1,x.2.2.2.2.2.1,x.2.2.2.2.2.2.1,x.2.2.2.2.2.2.2.1,x.2.2.2.2.2.2.2.2.1,x.2.2.2.2.2.2.2.2.2.1,(x.2.2.2.2.2.2.2.2.2.2++((false,([]:List T7)) :: ([]:List T22)))))
 else
 none
 else
 some (.inr (x.2.1,x.2.2.1,x.2.2.2.1,x.2.2.2.2.1,x.2.2.2.2.2.1,x.2.2.2.2.2.2.1,x.2.2.2.2.2.2.2.1,x.2.2.2.2.2.2.2.2.1,x.2.2.2.2.2.2.2.2.2.1,x.2.2.2.2.2.2.2.2.2.2))
def Zhp:Ctx:={ tb:=mkTb T2.tbl,fx:=[(50,[],Z11f)],sum:=[(0,4,Yay Znl Zlz (loop Zci))],nt:=63,pin:=0,nr:=true,ys:=[] }
theorem Zcl:CSound Tryz.prog ⟨63,0,true⟩ (.loop (loopOf 9 Tryz.f18)) (Yay Znm Zm0 (loop Zck)) :=
 Y8c (C:=Zhp) (ctxOK mixed tbl_ok rfl ⟨Z4o,trivial⟩ trivial) (SumOK.of ⟨(Yaz (by kernel_rfl)),trivial⟩) Znm Zm0 rfl rfl Zck (fun x=>by kernel_rfl)
abbrev Znk:Shape:={ sl:=[(1,(.ptr 0 [])),(2,(.ptr 1 [])),(4,(.ptr 2 [])),(8,(.hole (.int .i64)))],bl:=[.var (.hole y39),.var (.pr (.pr .nl (.pr (.hole (.int .i64)) (.pr (.hole (.int .i64)) (.pr (.hole (.int .i64)) (.pr .nl .nl))))) (.pr .nl (.pr .nl (.pr .nl (.pr .nl (.hole y4)))))),.var (.pr (.hole y39) (.pr (.sl 3) (.pr (.sl 4) (.pr (.sl 5) (.pr (.sl 6) (.hole y4)))))),.row y12,.row y40,.row y15,.row y23],ts:=[(.int .i64),y39,(.int .i64),(.int .i64),(.int .i64),y4,y39,y4,y18,y41,y19,y26],pin:=0 }
abbrev Zly:List (ETag × Shape):=[(.exit 4,{ sl:=[(2,(.ptr 0 [])),(4,(.ptr 1 []))],bl:=bl_1,ts:=ts_9,pin:=0 })]
def Zcg (x:(Int × T47 × Int × Int × Int × (Int × Int) × T47 × (Int × Int) × List (T17) × List T43 × List (T18) × List T29)):Option ((Int × T47 × Int × Int × Int × (Int × Int) × T47 × (Int × Int) × List (T17) × List T43 × List (T18) × List T29) ⊕ (Int × Int × Int × (Int × Int) × T47 × (Int × Int) × List (T17) × List T43 × List (T18) × List T29)) :=
 bif (decide (x.1 < x.2.1.2.2.1)) then
 bif (fits ((List.length x.2.2.2.2.2.2.2.2.2.2.2)+(List.length (((0:Int),(0:Int),([]:List T7)) :: ([]:List (Int × T14)))))) then
 some (.inl ((IntKind.wrap .i64 (x.1+(1:Int))),x.2.1,x.2.2.1,x.2.2.2.1,x.2.2.2.2.1,x.2.2.2.2.2.1,x.2.2.2.2.2.2.1,x.2.2.2.2.2.2.2.1,x.2.2.2.2.2.2.2.2.1,x.2.2.2.2.2.2.2.2.2.1,x.2.2.2.2.2.2.2.2.2.2.1,(x.2.2.2.2.2.2.2.2.2.2.2++(((0:Int),(0:Int),([]:List T7)) :: ([]:List (Int × T14))))))
 else
 none
 else
 some (.inr (x.2.2.1,x.2.2.2.1,x.2.2.2.2.1,x.2.2.2.2.2.1,x.2.2.2.2.2.2.1,x.2.2.2.2.2.2.2.1,x.2.2.2.2.2.2.2.2.1,x.2.2.2.2.2.2.2.2.2.1,x.2.2.2.2.2.2.2.2.2.2.1,x.2.2.2.2.2.2.2.2.2.2.2))
def Zhn:Ctx:={ tb:=mkTb T2.tbl,fx:=[(50,[],Z11f)],sum:=[(0,4,Yay Znl Zlz (loop Zci)),(0,9,Yay Znm Zm0 (loop Zck))],nt:=63,pin:=0,nr:=true,ys:=[] }
theorem Zch:CSound Tryz.prog ⟨63,0,true⟩ (.loop (loopOf 13 Tryz.f18)) (Yay Znk Zly (loop Zcg)) :=
 Y8c (C:=Zhn) (ctxOK mixed tbl_ok rfl ⟨Z4o,trivial⟩ trivial) (SumOK.of ⟨(Yaz (by kernel_rfl)),(Yaz (by kernel_rfl)),trivial⟩) Znk Zly rfl rfl Zcg (fun x=>by kernel_rfl)
abbrev Zrm:Shape:={ sl:=sl_0,bl:=[],ts:=ts_0,pin:=0 }
abbrev Zwz:Shape:={ sl:=[(0,(.hole y24))],bl:=[],ts:=[y24],pin:=0 }
def Z6h (x:T4):Option (T20) :=
 some (x.1,x.2.1,x.2.2,(0:Int),(Int.negSucc 0))
abbrev Z12c:=Spec.shp Zrm Zwz Z6h
def Zif:Ctx:={ tb:=mkTb T2.tbl,fx:=[],sum:=[],nt:=11,pin:=0,nr:=true,ys:=[] }
theorem Z6i:Sound Tryz.prog 53 (Z12c) :=
 Sound.shp (C:=Zif) (fn:=Tryz.f53) (by kernel_rfl) (c:=bodyOf Tryz.f53) (by kernel_rfl) (by decide) (ctxOK mixed tbl_ok rfl trivial trivial) (SumOK.of trivial) (by kernel_rfl) Zrm Zwz rfl (by decide) (by decide) rfl (by decide) rfl Z6h (fun x=>by kernel_rfl)
abbrev Zru:Shape:={ sl:=[(0,(.hole y46)),(1,(.hole y24))],bl:=[],ts:=[y46,y24],pin:=0 }
abbrev Zx7:Shape:={ sl:=sl_39,bl:=[],ts:=[y46],pin:=0 }
def Z6x (x:(T63 × T20)):Option (T63) :=
 bif (fits ((List.length ([]:List T20))+(List.length x.1.2))) then
 bif (fits ((List.length (([]:List T20)++x.1.2))+(List.length (x.2 :: ([]:List T20))))) then
 some ((x.1.1.1,x.1.1.2.1,x.1.1.2.2.1,x.1.1.2.2.2.1,x.1.1.2.2.2.2.1,(IntKind.wrap .i64 (x.1.1.2.2.2.2.2.1+(1:Int))),x.1.1.2.2.2.2.2.2),((([]:List T20)++x.1.2)++(x.2 :: ([]:List T20))))
 else
 none
 else
 none
abbrev Z12k:=Spec.shp Zru Zx7 Z6x
def Zir:Ctx:={ tb:=mkTb T2.tbl,fx:=[],sum:=[],nt:=23,pin:=0,nr:=true,ys:=[] }
theorem Z6y:Sound Tryz.prog 52 (Z12k) :=
 Sound.shp (C:=Zir) (fn:=Tryz.f52) (by kernel_rfl) (c:=bodyOf Tryz.f52) (by kernel_rfl) (by decide) (ctxOK mixed tbl_ok rfl trivial trivial) (SumOK.of trivial) (by kernel_rfl) Zru Zx7 rfl (by decide) (by decide) rfl (by decide) rfl Z6x (fun x=>by kernel_rfl)
abbrev Znq:Shape:={ sl:=[(1,(.hole (.int .i64))),(3,(.ptr 0 [])),(5,(.ptr 1 [])),(6,(.ptr 2 [])),(7,(.sl 3)),(13,(.hole y18)),(14,(.hole (.int .i64))),(15,(.hole (.int .i64)))],bl:=[.var (.hole y46),.var (.hole y12),.var (.pr (.pr (.pr .nl (.pr (.hole (.int .i64)) (.pr (.hole (.int .i64)) (.pr (.hole (.int .i64)) (.pr .nl .nl))))) (.pr .nl (.pr .nl (.pr .nl (.pr .nl (.hole y4)))))) .nl),.row y12],ts:=[(.int .i64),y18,(.int .i64),(.int .i64),y46,y12,(.int .i64),(.int .i64),(.int .i64),y4,y18],pin:=0 }
abbrev Zm4:List (ETag × Shape):=[(.exit 0,{ sl:=sl_40,bl:=[.var (.hole y46),.var (.pr (.pr (.pr .nl (.pr (.hole (.int .i64)) (.pr (.hole (.int .i64)) (.pr (.hole (.int .i64)) (.pr .nl .nl))))) (.pr .nl (.pr .nl (.pr .nl (.pr .nl (.hole y4)))))) .nl),.row y12],ts:=[y46,(.int .i64),(.int .i64),(.int .i64),y4,y18],pin:=0 })]
def Zcs (x:(Int × List (T17) × Int × Int × T63 × T17 × Int × Int × Int × (Int × Int) × List (T17))):Option ((Int × List (T17) × Int × Int × T63 × T17 × Int × Int × Int × (Int × Int) × List (T17)) ⊕ (T63 × Int × Int × Int × (Int × Int) × List (T17))) :=
 bif (decide (x.2.2.2.1 < x.2.2.1)) then
 bif (inb x.2.2.2.1 (List.length x.2.1)) then
 bif (x.2.2.2.1 == x.1) then
 bif (fits ((List.length x.2.2.2.2.2.2.2.2.2.2)+(List.length (x.2.2.2.2.2.1 :: ([]:List T17))))) then
 some (.inl (x.1,x.2.1,x.2.2.1,(IntKind.wrap .i64 (x.2.2.2.1+(1:Int))),x.2.2.2.2.1,x.2.2.2.2.2.1,x.2.2.2.2.2.2.1,x.2.2.2.2.2.2.2.1,x.2.2.2.2.2.2.2.2.1,x.2.2.2.2.2.2.2.2.2.1,(x.2.2.2.2.2.2.2.2.2.2++(x.2.2.2.2.2.1 :: ([]:List T17)))))
 else
 none
 else
 bif (fits ((List.length x.2.2.2.2.2.2.2.2.2.2)+(List.length ((getAt ((0:Int),(0:Int),(0:Int),false) x.2.1 (toN x.2.2.2.1)) :: ([]:List T17))))) then
 some (.inl (x.1,x.2.1,x.2.2.1,(IntKind.wrap .i64 (x.2.2.2.1+(1:Int))),x.2.2.2.2.1,x.2.2.2.2.2.1,x.2.2.2.2.2.2.1,x.2.2.2.2.2.2.2.1,x.2.2.2.2.2.2.2.2.1,x.2.2.2.2.2.2.2.2.2.1,(x.2.2.2.2.2.2.2.2.2.2++((getAt ((0:Int),(0:Int),(0:Int),false) x.2.1 (toN x.2.2.2.1)) :: ([]:List T17)))))
 else
 none
 else
 none
 else
 some (.inr (x.2.2.2.2.1,x.2.2.2.2.2.2.1,x.2.2.2.2.2.2.2.1,x.2.2.2.2.2.2.2.2.1,x.2.2.2.2.2.2.2.2.2.1,x.2.2.2.2.2.2.2.2.2.2))
def Zi3:Ctx:={ tb:=mkTb T2.tbl,fx:=[],sum:=[],nt:=33,pin:=0,nr:=true,ys:=[] }
theorem Zct:CSound Tryz.prog ⟨33,0,true⟩ (.loop (loopOf 4 Tryz.f105)) (Yay Znq Zm4 (loop Zcs)) :=
 Y8c (C:=Zi3) (ctxOK mixed tbl_ok rfl trivial trivial) (SumOK.of trivial) Znq Zm4 rfl rfl Zcs (fun x=>by kernel_rfl)
abbrev Zrd:Shape:={ sl:=[(0,(.hole y46)),(1,(.hole (.int .i64))),(2,(.hole y12))],bl:=[],ts:=[y46,(.int .i64),y12],pin:=0 }
abbrev Zwq:Shape:={ sl:=sl_39,bl:=[],ts:=[y46],pin:=0 }
def Z5z (x:(T63 × Int × T17)):Option (T63) :=
 (loop Zcs (x.2.1,x.1.1.2.1,(((List.length x.1.1.2.1):Nat):Int),(0:Int),x.1,x.2.2,(0:Int),(0:Int),(0:Int),((0:Int),(0:Int)),([]:List T17))).bind fun r12 =>
 some ((r12.1.1.1,r12.2.2.2.2.2,r12.1.1.2.2),r12.1.2)
abbrev Z123:=Spec.shp Zrd Zwq Z5z
def Zi2:Ctx:={ tb:=mkTb T2.tbl,fx:=[],sum:=[(0,4,Yay Znq Zm4 (loop Zcs))],nt:=33,pin:=0,nr:=true,ys:=[] }
theorem Z60:Sound Tryz.prog 105 (Z123) :=
 Sound.shp (C:=Zi2) (fn:=Tryz.f105) (by kernel_rfl) (c:=bodyOf Tryz.f105) (by kernel_rfl) (by decide) (ctxOK mixed tbl_ok rfl trivial trivial) (SumOK.of ⟨(Yb0 (d:=.loop (loopOf 4 Tryz.f105)) (by kernel_rfl) Zct),trivial⟩) (by kernel_rfl) Zrd Zwq rfl (by decide) (by decide) rfl (by decide) rfl Z5z (fun x=>by kernel_rfl)
abbrev Zrv:Shape:={ sl:=[(0,(.hole y46)),(1,(.hole (.int .i64))),(2,(.hole (.int .i64)))],bl:=[],ts:=[y46,(.int .i64),(.int .i64)],pin:=0 }
abbrev Zx8:Shape:={ sl:=sl_39,bl:=[],ts:=[y46],pin:=0 }
def Z6z (x:(T63 × Int × Int)):Option (T63) :=
 bif (inb x.2.1 (List.length x.1.1.2.1)) then
 bif (inb (getAt ((0:Int),(0:Int),(0:Int),false) x.1.1.2.1 (toN x.2.1)).1 (List.length x.1.1.1.2.2.2.2.2)) then
 bif (decide (x.2.2 ≥ (((List.length (getAt ([]:List T7) x.1.1.1.2.2.2.2.2 (toN (getAt ((0:Int),(0:Int),(0:Int),false) x.1.1.2.1 (toN x.2.1)).1))):Nat):Int))) then
 (Z5z (x.1,x.2.1,(getAt ((0:Int),(0:Int),(0:Int),false) x.1.1.2.1 (toN x.2.1)).1,x.2.2,(2:Int),(getAt ((0:Int),(0:Int),(0:Int),false) x.1.1.2.1 (toN x.2.1)).2.2.2)).bind fun r11 =>
 some r11
 else
 (Z5z (x.1,x.2.1,(getAt ((0:Int),(0:Int),(0:Int),false) x.1.1.2.1 (toN x.2.1)).1,x.2.2,(0:Int),(getAt ((0:Int),(0:Int),(0:Int),false) x.1.1.2.1 (toN x.2.1)).2.2.2)).bind fun r11 =>
 some r11
 else
 none
 else
 none
abbrev Z12l:=Spec.shp Zrv Zx8 Z6z
def Zis:Ctx:={ tb:=mkTb T2.tbl,fx:=[(105,[],Z123)],sum:=[],nt:=33,pin:=0,nr:=true,ys:=[] }
theorem Z70:Sound Tryz.prog 51 (Z12l) :=
 Sound.shp (C:=Zis) (fn:=Tryz.f51) (by kernel_rfl) (c:=bodyOf Tryz.f51) (by kernel_rfl) (by decide) (ctxOK mixed tbl_ok rfl ⟨Z60,trivial⟩ trivial) (SumOK.of trivial) (by kernel_rfl) Zrv Zx8 rfl (by decide) (by decide) rfl (by decide) rfl Z6z (fun x=>by kernel_rfl)
abbrev Znx:Shape:={ sl:=[(1,(.ptr 0 [])),(2,(.ptr 1 [])),(3,(.hole .bool)),(4,(.hole .bool)),(8,(.hole y18)),(9,(.hole (.int .i64))),(10,(.hole (.int .i64)))],bl:=bl_24,ts:=[.bool,.bool,y18,(.int .i64),(.int .i64),y45,(.int .i64),(.int .i64),(.int .i64),y4],pin:=0 }
abbrev Zmb:List (ETag × Shape):=[(.exit 0,{ sl:=[(1,(.ptr 0 [])),(2,(.ptr 1 [])),(3,(.hole .bool)),(4,(.hole .bool))],bl:=bl_24,ts:=[.bool,.bool,y45,(.int .i64),(.int .i64),(.int .i64),y4],pin:=0 })]
def Zd6 (x:(Bool × Bool × List (T17) × Int × Int × (T47 × T61) × Int × Int × Int × (Int × Int))):Option ((Bool × Bool × List (T17) × Int × Int × (T47 × T61) × Int × Int × Int × (Int × Int)) ⊕ (Bool × Bool × (T47 × T61) × Int × Int × Int × (Int × Int))) :=
 bif (decide (x.2.2.2.2.1 < x.2.2.2.1)) then
 bif (inb x.2.2.2.2.1 (List.length x.2.2.1)) then
 bif x.1 then
 bif x.2.1 then
 some (.inl (true,((getAt ((0:Int),(0:Int),(0:Int),false) x.2.2.1 (toN x.2.2.2.2.1)).2.2.1 == (2:Int)),x.2.2.1,x.2.2.2.1,(IntKind.wrap .i64 (x.2.2.2.2.1+(1:Int))),x.2.2.2.2.2.1,x.2.2.2.2.2.2.1,x.2.2.2.2.2.2.2.1,x.2.2.2.2.2.2.2.2.1,x.2.2.2.2.2.2.2.2.2))
 else
 some (.inl (true,false,x.2.2.1,x.2.2.2.1,(IntKind.wrap .i64 (x.2.2.2.2.1+(1:Int))),x.2.2.2.2.2.1,x.2.2.2.2.2.2.1,x.2.2.2.2.2.2.2.1,x.2.2.2.2.2.2.2.2.1,x.2.2.2.2.2.2.2.2.2))
 else
 bif x.2.1 then
 some (.inl (((getAt ((0:Int),(0:Int),(0:Int),false) x.2.2.1 (toN x.2.2.2.2.1)).2.2.1 == (0:Int)),((getAt ((0:Int),(0:Int),(0:Int),false) x.2.2.1 (toN x.2.2.2.2.1)).2.2.1 == (2:Int)),x.2.2.1,x.2.2.2.1,(IntKind.wrap .i64 (x.2.2.2.2.1+(1:Int))),x.2.2.2.2.2.1,x.2.2.2.2.2.2.1,x.2.2.2.2.2.2.2.1,x.2.2.2.2.2.2.2.2.1,x.2.2.2.2.2.2.2.2.2))
 else
 some (.inl (((getAt ((0:Int),(0:Int),(0:Int),false) x.2.2.1 (toN x.2.2.2.2.1)).2.2.1 == (0:Int)),false,x.2.2.1,x.2.2.2.1,(IntKind.wrap .i64 (x.2.2.2.2.1+(1:Int))),x.2.2.2.2.2.1,x.2.2.2.2.2.2.1,x.2.2.2.2.2.2.2.1,x.2.2.2.2.2.2.2.2.1,x.2.2.2.2.2.2.2.2.2))
 else
 none
 else
 some (.inr (x.1,x.2.1,x.2.2.2.2.2.1,x.2.2.2.2.2.2.1,x.2.2.2.2.2.2.2.1,x.2.2.2.2.2.2.2.2.1,x.2.2.2.2.2.2.2.2.2))
def Zio:Ctx:={ tb:=mkTb T2.tbl,fx:=[],sum:=[],nt:=38,pin:=0,nr:=true,ys:=[] }
theorem Zd7:CSound Tryz.prog ⟨38,0,true⟩ (.loop (loopOf 5 Tryz.f54)) (Yay Znx Zmb (loop Zd6)) :=
 Y8c (C:=Zio) (ctxOK mixed tbl_ok rfl trivial trivial) (SumOK.of trivial) Znx Zmb rfl rfl Zd6 (fun x=>by kernel_rfl)
abbrev Zrr:Shape:={ sl:=[(0,(.hole y45))],bl:=[],ts:=[y45],pin:=0 }
abbrev Zx4:Shape:={ sl:=[(0,(.hole y45))],bl:=[],ts:=[y45],pin:=0 }
def Z6r (x:T62):Option T62 :=
 (loop Zd6 (false,true,x.2.1,(((List.length x.2.1):Nat):Int),(0:Int),x,(0:Int),(0:Int),(0:Int),(0:Int),(0:Int))).bind fun r12 =>
 bif (r12.2.2.1.2.2.2.2.2.2 != (0:Int)) then
 some r12.2.2.1
 else
 bif r12.1 then
 some r12.2.2.1
 else
 bif r12.2.1 then
 some (r12.2.2.1.1,r12.2.2.1.2.1,r12.2.2.1.2.2.1,r12.2.2.1.2.2.2.1,r12.2.2.1.2.2.2.2.1,r12.2.2.1.2.2.2.2.2.1,(1:Int))
 else
 some (r12.2.2.1.1,r12.2.2.1.2.1,r12.2.2.1.2.2.1,r12.2.2.1.2.2.2.1,r12.2.2.1.2.2.2.2.1,r12.2.2.1.2.2.2.2.2.1,(2:Int))
abbrev Z12h:=Spec.shp Zrr Zx4 Z6r
def Zin:Ctx:={ tb:=mkTb T2.tbl,fx:=[],sum:=[(0,5,Yay Znx Zmb (loop Zd6))],nt:=38,pin:=0,nr:=true,ys:=[] }
theorem Z6s:Sound Tryz.prog 54 (Z12h) :=
 Sound.shp (C:=Zin) (fn:=Tryz.f54) (by kernel_rfl) (c:=bodyOf Tryz.f54) (by kernel_rfl) (by decide) (ctxOK mixed tbl_ok rfl trivial trivial) (SumOK.of ⟨(Yb0 (d:=.loop (loopOf 5 Tryz.f54)) (by kernel_rfl) Zd7),trivial⟩) (by kernel_rfl) Zrr Zx4 rfl (by decide) (by decide) rfl (by decide) rfl Z6r (fun x=>by kernel_rfl)
abbrev Zr3:Shape:={ sl:=sl_6,bl:=[],ts:=[y39],pin:=0 }
abbrev Zwg:Shape:={ sl:=[(0,(.hole y45)),(1,(.hole y27))],bl:=[],ts:=[y45,y27],pin:=0 }
def Z5f (x:(T47)):Option T63 :=
 (loop Zci (x.1,(((List.length x.1):Nat):Int),(0:Int),x,(0:Int),(0:Int),(0:Int),((0:Int),(0:Int)),x,((0:Int),(0:Int)),(((0:Int),(0:Int),(0:Int),false) :: ([]:List T17)),([]:List (Int × T41)))).bind fun r5 =>
 (loop Zck ((0:Int),r5.1,r5.2.1,r5.2.2.1,r5.2.2.2.1,r5.2.2.2.2.1,r5.2.2.2.2.2.1,r5.2.2.2.2.2.2.1,r5.2.2.2.2.2.2.2.1,r5.2.2.2.2.2.2.2.2,([]:List T22))).bind fun r6 =>
 (loop Zcg ((0:Int),r6.1,r6.2.1,r6.2.2.1,r6.2.2.2.1,r6.2.2.2.2.1,r6.2.2.2.2.2.1,r6.2.2.2.2.2.2.1,r6.2.2.2.2.2.2.2.1,r6.2.2.2.2.2.2.2.2.1,r6.2.2.2.2.2.2.2.2.2,([]:List (Int × T14)))).bind fun r7 =>
 (Z6h ((0:Int),(0:Int),(0:Int))).bind fun r8 =>
 (Z6x (((r7.2.2.2.2.1,r7.2.2.2.2.2.2.1,r7.2.2.2.2.2.2.2.1,r7.2.2.2.2.2.2.2.2.1,r7.2.2.2.2.2.2.2.2.2,r7.2.2.2.2.2.1),([]:List T20)),r8)).bind fun r9 =>
 (Z6z (r9,(0:Int),(0:Int))).bind fun r10 =>
 (Z6r r10.1).bind fun r11 =>
 some (r11,r10.2)
abbrev Z11t:=Spec.shp Zr3 Zwg Z5f
def Zhm:Ctx:={ tb:=mkTb T2.tbl,fx:=[(50,[],Z11f),(53,[],Z12c),(52,[2000000,2000000,2000000,2000000],Z12k),(51,[],Z12l),(54,[],Z12h)],sum:=[(0,4,Yay Znl Zlz (loop Zci)),(0,9,Yay Znm Zm0 (loop Zck)),(0,13,Yay Znk Zly (loop Zcg))],nt:=63,pin:=0,nr:=true,ys:=[] }
theorem Z5g:Sound Tryz.prog 18 (Z11t) :=
 Sound.shp (C:=Zhm) (fn:=Tryz.f18) (by kernel_rfl) (c:=bodyOf Tryz.f18) (by kernel_rfl) (by decide) (ctxOK mixed tbl_ok rfl ⟨Z4o,Z6i,Z6y,Z70,Z6s,trivial⟩ trivial) (SumOK.of ⟨(Yb0 (d:=.loop (loopOf 4 Tryz.f18)) (by kernel_rfl) Zcj),(Yb0 (d:=.loop (loopOf 9 Tryz.f18)) (by kernel_rfl) Zcl),(Yb0 (d:=.loop (loopOf 13 Tryz.f18)) (by kernel_rfl) Zch),trivial⟩) (by kernel_rfl) Zr3 Zwg rfl (by decide) (by decide) rfl (by decide) rfl Z5f (fun x=>by kernel_rfl)
abbrev Znj:Shape:={ sl:=[(0,(.hole y27)),(1,(.hole y27)),(12,(.hole (.int .i64))),(13,(.hole (.int .i64)))],bl:=[],ts:=[y27,y27,(.int .i64),(.int .i64)],pin:=0 }
abbrev Zlx:List (ETag × Shape):=[(.ret,{ sl:=sl_35,bl:=[],ts:=ts_1,pin:=0 }),(.exit 0,{ sl:=[],bl:=[],ts:=[],pin:=0 })]
def Zce (x:(List (T20) × List (T20) × Int × Int)):Option ((List (T20) × List (T20) × Int × Int) ⊕ ((Bool) ⊕ Unit)) :=
 bif (decide (x.2.2.2 < x.2.2.1)) then
 bif (inb x.2.2.2 (List.length x.1)) then
 bif (inb x.2.2.2 (List.length x.2.1)) then
 bif (Bool.not (((getAt ((0:Int),(0:Int),(0:Int),(0:Int),(0:Int)) x.1 (toN x.2.2.2)).1 == (getAt ((0:Int),(0:Int),(0:Int),(0:Int),(0:Int)) x.2.1 (toN x.2.2.2)).1) && (((getAt ((0:Int),(0:Int),(0:Int),(0:Int),(0:Int)) x.1 (toN x.2.2.2)).2.1 == (getAt ((0:Int),(0:Int),(0:Int),(0:Int),(0:Int)) x.2.1 (toN x.2.2.2)).2.1) && (((getAt ((0:Int),(0:Int),(0:Int),(0:Int),(0:Int)) x.1 (toN x.2.2.2)).2.2.1 == (getAt ((0:Int),(0:Int),(0:Int),(0:Int),(0:Int)) x.2.1 (toN x.2.2.2)).2.2.1) && (((getAt ((0:Int),(0:Int),(0:Int),(0:Int),(0:Int)) x.1 (toN x.2.2.2)).2.2.2.1 == (getAt ((0:Int),(0:Int),(0:Int),(0:Int),(0:Int)) x.2.1 (toN x.2.2.2)).2.2.2.1) && ((getAt ((0:Int),(0:Int),(0:Int),(0:Int),(0:Int)) x.1 (toN x.2.2.2)).2.2.2.2 == (getAt ((0:Int),(0:Int),(0:Int),(0:Int),(0:Int)) x.2.1 (toN x.2.2.2)).2.2.2.2)))))) then
 some (.inr (.inl false))
 else
 some (.inl (x.1,x.2.1,x.2.2.1,(IntKind.wrap .i64 (x.2.2.2+(1:Int)))))
 else
 none
 else
 none
 else
 some (.inr (.inr ()))
def Zhl:Ctx:={ tb:=mkTb T2.tbl,fx:=[],sum:=[],nt:=26,pin:=0,nr:=true,ys:=[] }
theorem Zcf:CSound Tryz.prog ⟨26,0,true⟩ (.loop (loopOf 5 Tryz.f19)) (Yay Znj Zlx (loop Zce)) :=
 Y8c (C:=Zhl) (ctxOK mixed tbl_ok rfl trivial trivial) (SumOK.of trivial) Znj Zlx rfl rfl Zce (fun x=>by kernel_rfl)
abbrev Zr2:Shape:={ sl:=[(0,(.hole y27)),(1,(.hole y27))],bl:=[],ts:=[y27,y27],pin:=0 }
abbrev Zwf:Shape:={ sl:=sl_1,bl:=[],ts:=ts_1,pin:=0 }
def Z5d (x:(List (T20) × List (T20))):Option (Bool) :=
 bif ((((List.length x.1):Nat):Int) != (((List.length x.2):Nat):Int)) then
 some false
 else
 (loop Zce (x.1,x.2,(((List.length x.1):Nat):Int),(0:Int))).bind fun r7 =>
 match r7 with
 | .inl y8 =>
 some y8
 | .inr y8 =>
 some true
abbrev Z11s:=Spec.shp Zr2 Zwf Z5d
def Zhk:Ctx:={ tb:=mkTb T2.tbl,fx:=[],sum:=[(0,5,Yay Znj Zlx (loop Zce))],nt:=26,pin:=0,nr:=true,ys:=[] }
theorem Z5e:Sound Tryz.prog 19 (Z11s) :=
 Sound.shp (C:=Zhk) (fn:=Tryz.f19) (by kernel_rfl) (c:=bodyOf Tryz.f19) (by kernel_rfl) (by decide) (ctxOK mixed tbl_ok rfl trivial trivial) (SumOK.of ⟨(Yb0 (d:=.loop (loopOf 5 Tryz.f19)) (by kernel_rfl) Zcf),trivial⟩) (by kernel_rfl) Zr2 Zwf rfl (by decide) (by decide) rfl (by decide) rfl Z5d (fun x=>by kernel_rfl)
abbrev Zre:Shape:={ sl:=[(0,(.hole y45)),(1,(.hole (.int .i64)))],bl:=[],ts:=[y45,(.int .i64)],pin:=0 }
abbrev Zwr:Shape:={ sl:=sl_17,bl:=[],ts:=[y5],pin:=0 }
def Z61 (x:((T47 × T61) × Int)):Option (T7) :=
 bif (inb x.2 (List.length x.1.2.1)) then
 bif (inb (getAt ((0:Int),(0:Int),(0:Int),false) x.1.2.1 (toN x.2)).1 (List.length x.1.1.2.2.2.2.2)) then
 bif (inb (getAt ((0:Int),(0:Int),(0:Int),false) x.1.2.1 (toN x.2)).2.1 (List.length (getAt ([]:List T7) x.1.1.2.2.2.2.2 (toN (getAt ((0:Int),(0:Int),(0:Int),false) x.1.2.1 (toN x.2)).1)))) then
 some (getAt ((0:Int),(0:Int),(0:Int)) (getAt ([]:List T7) x.1.1.2.2.2.2.2 (toN (getAt ((0:Int),(0:Int),(0:Int),false) x.1.2.1 (toN x.2)).1)) (toN (getAt ((0:Int),(0:Int),(0:Int),false) x.1.2.1 (toN x.2)).2.1))
 else
 none
 else
 none
 else
 none
abbrev Z124:=Spec.shp Zre Zwr Z61
def Zi4:Ctx:={ tb:=mkTb T2.tbl,fx:=[],sum:=[],nt:=22,pin:=0,nr:=true,ys:=[] }
theorem Z62:Sound Tryz.prog 55 (Z124) :=
 Sound.shp (C:=Zi4) (fn:=Tryz.f55) (by kernel_rfl) (c:=bodyOf Tryz.f55) (by kernel_rfl) (by decide) (ctxOK mixed tbl_ok rfl trivial trivial) (SumOK.of trivial) (by kernel_rfl) Zre Zwr rfl (by decide) (by decide) rfl (by decide) rfl Z61 (fun x=>by kernel_rfl)
abbrev Zn9:Shape:={ sl:=[(1,(.hole (.int .i64))),(7,(.hole (.slice y5))),(8,(.hole (.int .i64))),(9,(.hole (.int .i64)))],bl:=[],ts:=[(.int .i64),(.slice y5),(.int .i64),(.int .i64)],pin:=0 }
abbrev Zln:List (ETag × Shape):=[(.ret,{ sl:=sl_3,bl:=[],ts:=ts_2,pin:=0 }),(.exit 0,{ sl:=[],bl:=[],ts:=[],pin:=0 })]
def Zbt (x:(Int × List (T7) × Int × Int)):Option ((Int × List (T7) × Int × Int) ⊕ ((Int) ⊕ Unit)) :=
 bif (decide (x.2.2.2 < x.2.2.1)) then
 bif (inb x.2.2.2 (List.length x.2.1)) then
 bif ((getAt ((0:Int),(0:Int),(0:Int)) x.2.1 (toN x.2.2.2)).1 != x.1) then
 some (.inr (.inl x.2.2.2))
 else
 some (.inl (x.1,x.2.1,x.2.2.1,(IntKind.wrap .i64 (x.2.2.2+(1:Int)))))
 else
 none
 else
 some (.inr (.inr ()))
def Zgo:Ctx:={ tb:=mkTb T2.tbl,fx:=[],sum:=[],nt:=20,pin:=0,nr:=true,ys:=[] }
theorem Zbu:CSound Tryz.prog ⟨20,0,true⟩ (.loop (loopOf 3 Tryz.f159)) (Yay Zn9 Zln (loop Zbt)) :=
 Y8c (C:=Zgo) (ctxOK mixed tbl_ok rfl trivial trivial) (SumOK.of trivial) Zn9 Zln rfl rfl Zbt (fun x=>by kernel_rfl)
abbrev Zqf:Shape:={ sl:=sl_23,bl:=[],ts:=ts_12,pin:=0 }
abbrev Zvs:Shape:={ sl:=sl_2,bl:=[],ts:=ts_2,pin:=0 }
def Z42 (x:T15):Option (Int) :=
 (loop Zbt (x.2,x.1,(((List.length x.1):Nat):Int),(0:Int))).bind fun r16 =>
 match r16 with
 | .inl y17 =>
 some y17
 | .inr y17 =>
 some (Int.negSucc 0)
abbrev Z115:=Spec.shp Zqf Zvs Z42
def Zgn:Ctx:={ tb:=mkTb T2.tbl,fx:=[],sum:=[(0,3,Yay Zn9 Zln (loop Zbt))],nt:=20,pin:=0,nr:=true,ys:=[] }
theorem Z43:Sound Tryz.prog 159 (Z115) :=
 Sound.shp (C:=Zgn) (fn:=Tryz.f159) (by kernel_rfl) (c:=bodyOf Tryz.f159) (by kernel_rfl) (by decide) (ctxOK mixed tbl_ok rfl trivial trivial) (SumOK.of ⟨(Yb0 (d:=.loop (loopOf 3 Tryz.f159)) (by kernel_rfl) Zbu),trivial⟩) (by kernel_rfl) Zqf Zvs rfl (by decide) (by decide) rfl (by decide) rfl Z42 (fun x=>by kernel_rfl)
abbrev Zqr:Shape:={ sl:=[(0,(.hole y40)),(1,(.hole .bool)),(2,(.hole (.int .i64)))],bl:=[],ts:=[y40,.bool,(.int .i64)],pin:=0 }
abbrev Zw4:Shape:={ sl:=sl_1,bl:=[],ts:=ts_1,pin:=0 }
def Z4r (x:((Int × T40) × Bool × Int)):Option (Bool) :=
 bif (x.1.1 == (Int.negSucc 0)) then
 some false
 else
 bif x.1.2.1 then
 some true
 else
 bif x.2.1 then
 (Z42 (x.1.2.2.2.2.2.2,x.2.2)).bind fun r15 =>
 bif (decide (r15 ≥ (0:Int))) then
 some true
 else
 some (decide (x.1.2.2.1.2.2.2 < x.1.1))
 else
 bif (decide (x.1.2.2.1.2.2.2 > (0:Int))) then
 some true
 else
 (Z42 (x.1.2.2.2.2.2.1,x.2.2)).bind fun r15 =>
 some (decide (r15 ≥ (0:Int)))
abbrev Z11h:=Spec.shp Zqr Zw4 Z4r
def Zh7:Ctx:={ tb:=mkTb T2.tbl,fx:=[(159,[],Z115)],sum:=[],nt:=37,pin:=0,nr:=true,ys:=[] }
theorem Z4s:Sound Tryz.prog 106 (Z11h) :=
 Sound.shp (C:=Zh7) (fn:=Tryz.f106) (by kernel_rfl) (c:=bodyOf Tryz.f106) (by kernel_rfl) (by decide) (ctxOK mixed tbl_ok rfl ⟨Z43,trivial⟩ trivial) (SumOK.of trivial) (by kernel_rfl) Zqr Zw4 rfl (by decide) (by decide) rfl (by decide) rfl Z4r (fun x=>by kernel_rfl)
abbrev Znu:Shape:={ sl:=[(1,(.hole (.int .i64))),(3,(.ptr 0 [])),(7,(.sl 1)),(12,(.hole (.slice y2))),(13,(.hole (.int .i64))),(14,(.hole (.int .i64)))],bl:=bl_13,ts:=ts_13,pin:=0 }
abbrev Zm8:List (ETag × Shape):=[(.exit 0,{ sl:=[(7,(.sl 0))],bl:=[.row y4],ts:=[(.slice y4)],pin:=0 })]
def Zd0 (x:T68):Option (T68 ⊕ (T6)) :=
 bif (decide (x.2.2.2.1 < x.2.2.1)) then
 bif (inb x.2.2.2.1 (List.length x.2.1)) then
 bif (inb (getAt (false,(0:Int)) x.2.1 (toN x.2.2.2.1)).2 (List.length x.2.2.2.2.1.2.2.1)) then
 (Z4r ((getAt ((0:Int),false,((0:Int),(0:Int),([]:List Int),(0:Int)),(0:Int),(0:Int),([]:List T7),([]:List T7)) x.2.2.2.2.1.2.2.1 (toN (getAt (false,(0:Int)) x.2.1 (toN x.2.2.2.1)).2)),(getAt (false,(0:Int)) x.2.1 (toN x.2.2.2.1)).1,x.1)).bind fun r14 =>
 bif r14 then
 bif (fits ((List.length x.2.2.2.2.2)+(List.length ((x.1,x.2.2.2.1) :: ([]:List (Int × Int)))))) then
 some (.inl (x.1,x.2.1,x.2.2.1,(IntKind.wrap .i64 (x.2.2.2.1+(1:Int))),x.2.2.2.2.1,(x.2.2.2.2.2++((x.1,x.2.2.2.1) :: ([]:List (Int × Int))))))
 else
 none
 else
 some (.inl (x.1,x.2.1,x.2.2.1,(IntKind.wrap .i64 (x.2.2.2.1+(1:Int))),x.2.2.2.2.1,x.2.2.2.2.2))
 else
 none
 else
 none
 else
 some (.inr x.2.2.2.2.2)
def Zih:Ctx:={ tb:=mkTb T2.tbl,fx:=[(106,[],Z11h)],sum:=[],nt:=37,pin:=0,nr:=true,ys:=[] }
theorem Zd1:CSound Tryz.prog ⟨37,0,true⟩ (.loop (loopOf 4 Tryz.f56)) (Yay Znu Zm8 (loop Zd0)) :=
 Y8c (C:=Zih) (ctxOK mixed tbl_ok rfl ⟨Z4s,trivial⟩ trivial) (SumOK.of trivial) Znu Zm8 rfl rfl Zd0 (fun x=>by kernel_rfl)
abbrev Zrn:Shape:={ sl:=[(0,(.hole y45)),(1,(.hole (.int .i64))),(2,(.hole y9))],bl:=[],ts:=[y45,(.int .i64),y9],pin:=0 }
abbrev Zx0:Shape:={ sl:=[(0,(.sl 0))],bl:=[.row y4],ts:=[(.slice y4)],pin:=0 }
def Z6j (x:((T47 × T61) × Int × T12)):Option T6 :=
 (loop Zd0 (x.2.1,x.2.2.1,(((List.length x.2.2.1):Nat):Int),(0:Int),x.1,([]:List (Int × Int)))).bind fun r13 =>
 some r13
abbrev Z12d:=Spec.shp Zrn Zx0 Z6j
def Zig:Ctx:={ tb:=mkTb T2.tbl,fx:=[(106,[],Z11h)],sum:=[(0,4,Yay Znu Zm8 (loop Zd0))],nt:=37,pin:=0,nr:=true,ys:=[] }
theorem Z6k:Sound Tryz.prog 56 (Z12d) :=
 Sound.shp (C:=Zig) (fn:=Tryz.f56) (by kernel_rfl) (c:=bodyOf Tryz.f56) (by kernel_rfl) (by decide) (ctxOK mixed tbl_ok rfl ⟨Z4s,trivial⟩ trivial) (SumOK.of ⟨(Yb0 (d:=.loop (loopOf 4 Tryz.f56)) (by kernel_rfl) Zd1),trivial⟩) (by kernel_rfl) Zrn Zx0 rfl (by decide) (by decide) rfl (by decide) rfl Z6j (fun x=>by kernel_rfl)
abbrev Zni:Shape:={ sl:=[(1,(.ptr 0 [])),(3,(.sl 1)),(10,(.hole y18)),(11,(.hole (.int .i64))),(12,(.hole (.int .i64)))],bl:=bl_13,ts:=[y18,(.int .i64),(.int .i64),y45,(.slice y4)],pin:=0 }
abbrev Zlw:List (ETag × Shape):=[(.exit 0,{ sl:=[(3,(.sl 0))],bl:=[.row y4],ts:=[(.slice y4)],pin:=0 })]
def Zcc (x:T67):Option (T67 ⊕ (T6)) :=
 bif (decide (x.2.2.1 < x.2.1)) then
 bif (inb x.2.2.1 (List.length x.1)) then
 bif (x.2.2.2.1.2.2.2.2.2.2 != (0:Int)) then
 some (.inl (x.1,x.2.1,(IntKind.wrap .i64 (x.2.2.1+(1:Int))),x.2.2.2.1,x.2.2.2.2))
 else
 bif ((getAt ((0:Int),(0:Int),(0:Int),false) x.1 (toN x.2.2.1)).2.2.1 != (0:Int)) then
 some (.inl (x.1,x.2.1,(IntKind.wrap .i64 (x.2.2.1+(1:Int))),x.2.2.2.1,x.2.2.2.2))
 else
 (Z61 (x.2.2.2.1,x.2.2.1)).bind fun r11 =>
 bif (r11.1 == (4:Int)) then
 bif (inb r11.2.1 (List.length x.2.2.2.1.1.2.2.2.2.1)) then
 (Z6j (x.2.2.2.1,x.2.2.1,(getAt (([]:List T0),false) x.2.2.2.1.1.2.2.2.2.1 (toN r11.2.1)))).bind fun r12 =>
 bif ((((List.length r12):Nat):Int) == (0:Int)) then
 bif (fits ((List.length r12)+(List.length ((x.2.2.1,(Int.negSucc 0)) :: ([]:List (Int × Int)))))) then
 bif (fits ((List.length x.2.2.2.2)+(List.length (r12++((x.2.2.1,(Int.negSucc 0)) :: ([]:List (Int × Int))))))) then
 some (.inl (x.1,x.2.1,(IntKind.wrap .i64 (x.2.2.1+(1:Int))),x.2.2.2.1,(x.2.2.2.2++(r12++((x.2.2.1,(Int.negSucc 0)) :: ([]:List (Int × Int)))))))
 else
 none
 else
 none
 else
 bif (fits ((List.length x.2.2.2.2)+(List.length r12))) then
 some (.inl (x.1,x.2.1,(IntKind.wrap .i64 (x.2.2.1+(1:Int))),x.2.2.2.1,(x.2.2.2.2++r12)))
 else
 none
 else
 none
 else
 bif (fits ((List.length x.2.2.2.2)+(List.length (([]:List (Int × Int))++((x.2.2.1,(Int.negSucc 0)) :: ([]:List (Int × Int))))))) then
 some (.inl (x.1,x.2.1,(IntKind.wrap .i64 (x.2.2.1+(1:Int))),x.2.2.2.1,(x.2.2.2.2++(([]:List (Int × Int))++((x.2.2.1,(Int.negSucc 0)) :: ([]:List (Int × Int)))))))
 else
 none
 else
 none
 else
 some (.inr x.2.2.2.2)
def Zhj:Ctx:={ tb:=mkTb T2.tbl,fx:=[(55,[],Z124),(56,[],Z12d)],sum:=[],nt:=55,pin:=0,nr:=true,ys:=[] }
theorem Zcd:CSound Tryz.prog ⟨55,0,true⟩ (.loop (loopOf 4 Tryz.f20)) (Yay Zni Zlw (loop Zcc)) :=
 Y8c (C:=Zhj) (ctxOK mixed tbl_ok rfl ⟨Z62,Z6k,trivial⟩ trivial) (SumOK.of trivial) Zni Zlw rfl rfl Zcc (fun x=>by kernel_rfl)
abbrev Zr1:Shape:={ sl:=[(0,(.hole y45))],bl:=[],ts:=[y45],pin:=0 }
abbrev Zwe:Shape:={ sl:=[(0,(.hole (.slice y4)))],bl:=[],ts:=[(.slice y4)],pin:=0 }
def Z5b (x:T62):Option T6 :=
 (loop Zcc (x.2.1,(((List.length x.2.1):Nat):Int),(0:Int),x,([]:List (Int × Int)))).bind fun r10 =>
 some r10
abbrev Z11r:=Spec.shp Zr1 Zwe Z5b
def Zhi:Ctx:={ tb:=mkTb T2.tbl,fx:=[(55,[],Z124),(56,[],Z12d)],sum:=[(0,4,Yay Zni Zlw (loop Zcc))],nt:=55,pin:=0,nr:=true,ys:=[] }
theorem Z5c:Sound Tryz.prog 20 (Z11r) :=
 Sound.shp (C:=Zhi) (fn:=Tryz.f20) (by kernel_rfl) (c:=bodyOf Tryz.f20) (by kernel_rfl) (by decide) (ctxOK mixed tbl_ok rfl ⟨Z62,Z6k,trivial⟩ trivial) (SumOK.of ⟨(Yb0 (d:=.loop (loopOf 4 Tryz.f20)) (by kernel_rfl) Zcd),trivial⟩) (by kernel_rfl) Zr1 Zwe rfl (by decide) (by decide) rfl (by decide) rfl Z5b (fun x=>by kernel_rfl)
abbrev Znn:Shape:={ sl:=[(0,(.hole (.slice y4))),(1,(.hole (.slice y4))),(12,(.hole (.int .i64))),(13,(.hole (.int .i64)))],bl:=[],ts:=[(.slice y4),(.slice y4),(.int .i64),(.int .i64)],pin:=0 }
abbrev Zm1:List (ETag × Shape):=[(.ret,{ sl:=sl_35,bl:=[],ts:=ts_1,pin:=0 }),(.exit 0,{ sl:=[],bl:=[],ts:=[],pin:=0 })]
def Zcm (x:(List (Int × Int) × List (Int × Int) × Int × Int)):Option ((List (Int × Int) × List (Int × Int) × Int × Int) ⊕ ((Bool) ⊕ Unit)) :=
 bif (decide (x.2.2.2 < x.2.2.1)) then
 bif (inb x.2.2.2 (List.length x.1)) then
 bif (inb x.2.2.2 (List.length x.2.1)) then
 bif (Bool.not (((getAt ((0:Int),(0:Int)) x.1 (toN x.2.2.2)).1 == (getAt ((0:Int),(0:Int)) x.2.1 (toN x.2.2.2)).1) && ((getAt ((0:Int),(0:Int)) x.1 (toN x.2.2.2)).2 == (getAt ((0:Int),(0:Int)) x.2.1 (toN x.2.2.2)).2))) then
 some (.inr (.inl false))
 else
 some (.inl (x.1,x.2.1,x.2.2.1,(IntKind.wrap .i64 (x.2.2.2+(1:Int)))))
 else
 none
 else
 none
 else
 some (.inr (.inr ()))
def Zhr:Ctx:={ tb:=mkTb T2.tbl,fx:=[],sum:=[],nt:=26,pin:=0,nr:=true,ys:=[] }
theorem Zcn:CSound Tryz.prog ⟨26,0,true⟩ (.loop (loopOf 5 Tryz.f21)) (Yay Znn Zm1 (loop Zcm)) :=
 Y8c (C:=Zhr) (ctxOK mixed tbl_ok rfl trivial trivial) (SumOK.of trivial) Znn Zm1 rfl rfl Zcm (fun x=>by kernel_rfl)
end
end Go.Proofs.YthdlpkdojipfhaaGreat.VX.VxM_M

