/- Laid for the law MachineGoes. -/
import Derived.Test.YthdlpkdojipfhaaGreatMachineGoesF0
set_option linter.unusedVariables false
set_option maxRecDepth 100000
namespace Go.Proofs.YthdlpkdojipfhaaGreat.VX.VxM_M
open Go.Proofs Go.Proofs.YthdlpkdojipfhaaGreat.VX.T2
noncomputable section
abbrev Zg3:Shape:={ sl:=sl_27,bl:=[],ts:=[y40,y5],pin:=0 }
abbrev Zjp:Shape:={ sl:=sl_28,bl:=[],ts:=[y40,y30,(.int .i64)],pin:=0 }
def Zc (x:T45):Option T48 :=
 (Za x.1).bind fun r18 =>
 bif (Bool.not r18) then
 some (((0:Int),false,((0:Int),(0:Int),([]:List Int),(0:Int)),(0:Int),(0:Int),([]:List T7),([]:List T7)),((0:Int),(0:Int),((0:Int),(0:Int),(0:Int)),(0:Int)),(1:Int))
 else
 (Ze x.2).bind fun r19 =>
 bif (Bool.not r19) then
 some (((0:Int),false,((0:Int),(0:Int),([]:List Int),(0:Int)),(0:Int),(0:Int),([]:List T7),([]:List T7)),((0:Int),(0:Int),((0:Int),(0:Int),(0:Int)),(0:Int)),(1:Int))
 else
 (Zq (x.1.2.2.2.2.2.2,x.1,x.2.1)).bind fun r20 =>
 (Zl r20.2).bind fun r21 =>
 bif r21.1 then
 some (x.1,((0:Int),(0:Int),((Int.negSucc 0),(0:Int),(0:Int)),(0:Int)),(0:Int))
 else
 bif r20.2.1.2.1 then
 some (x.1,((3:Int),(0:Int),((Int.negSucc 0),(0:Int),(0:Int)),(0:Int)),(0:Int))
 else
 bif (r20.1.1 != (Int.negSucc 0)) then
 bif (r20.2.1.2.2.2.1 == (1048576:Int)) then
 some (((0:Int),false,((0:Int),(0:Int),([]:List Int),(0:Int)),(0:Int),(0:Int),([]:List T7),([]:List T7)),((0:Int),(0:Int),((0:Int),(0:Int),(0:Int)),(0:Int)),(5:Int))
 else
 bif (r20.1.1 != (Int.negSucc 0)) then
 (Zo (r20.1.1,r20.2)).bind fun r22 =>
 (Zs r22).bind fun r23 =>
 some (r23.2.1,((1:Int),r23.1,r20.1,r23.1),(0:Int))
 else
 (Zi r20.2).bind fun r22 =>
 bif (Bool.not r22.1) then
 (Zw r20.2).bind fun r23 =>
 some (r23.2.1,((1:Int),r23.1,r20.1,(0:Int)),(0:Int))
 else
 (Z74 (r20.2.1.2.2.2.2.2.1,x.2)).bind fun r23 =>
 bif (r23.2 != (0:Int)) then
 some (((0:Int),false,((0:Int),(0:Int),([]:List Int),(0:Int)),(0:Int),(0:Int),([]:List T7),([]:List T7)),((0:Int),(0:Int),((0:Int),(0:Int),(0:Int)),(0:Int)),r23.2)
 else
 some ((r20.2.1.1,r20.2.1.2.1,r20.2.1.2.2.1,r20.2.1.2.2.2.1,r20.2.1.2.2.2.2.1,r23.1,r20.2.1.2.2.2.2.2.2),((0:Int),(0:Int),r20.1,(0:Int)),(0:Int))
 else
 (Zi r20.2).bind fun r22 =>
 bif (Bool.not r22.1) then
 bif (r20.2.1.2.2.2.1 == (1048576:Int)) then
 some (((0:Int),false,((0:Int),(0:Int),([]:List Int),(0:Int)),(0:Int),(0:Int),([]:List T7),([]:List T7)),((0:Int),(0:Int),((0:Int),(0:Int),(0:Int)),(0:Int)),(5:Int))
 else
 bif (r20.1.1 != (Int.negSucc 0)) then
 (Zo (r20.1.1,r20.2)).bind fun r23 =>
 (Zs r23).bind fun r24 =>
 some (r24.2.1,((1:Int),r24.1,r20.1,r24.1),(0:Int))
 else
 (Zi r20.2).bind fun r23 =>
 bif (Bool.not r23.1) then
 (Zw r20.2).bind fun r24 =>
 some (r24.2.1,((1:Int),r24.1,r20.1,(0:Int)),(0:Int))
 else
 (Z74 (r20.2.1.2.2.2.2.2.1,x.2)).bind fun r24 =>
 bif (r24.2 != (0:Int)) then
 some (((0:Int),false,((0:Int),(0:Int),([]:List Int),(0:Int)),(0:Int),(0:Int),([]:List T7),([]:List T7)),((0:Int),(0:Int),((0:Int),(0:Int),(0:Int)),(0:Int)),r24.2)
 else
 some ((r20.2.1.1,r20.2.1.2.1,r20.2.1.2.2.1,r20.2.1.2.2.2.1,r20.2.1.2.2.2.2.1,r24.1,r20.2.1.2.2.2.2.2.2),((0:Int),(0:Int),r20.1,(0:Int)),(0:Int))
 else
 bif (r20.1.1 != (Int.negSucc 0)) then
 (Zo (r20.1.1,r20.2)).bind fun r23 =>
 (Zs r23).bind fun r24 =>
 some (r24.2.1,((1:Int),r24.1,r20.1,r24.1),(0:Int))
 else
 (Zi r20.2).bind fun r23 =>
 bif (Bool.not r23.1) then
 (Zw r20.2).bind fun r24 =>
 some (r24.2.1,((1:Int),r24.1,r20.1,(0:Int)),(0:Int))
 else
 (Z74 (r20.2.1.2.2.2.2.2.1,x.2)).bind fun r24 =>
 bif (r24.2 != (0:Int)) then
 some (((0:Int),false,((0:Int),(0:Int),([]:List Int),(0:Int)),(0:Int),(0:Int),([]:List T7),([]:List T7)),((0:Int),(0:Int),((0:Int),(0:Int),(0:Int)),(0:Int)),r24.2)
 else
 some ((r20.2.1.1,r20.2.1.2.1,r20.2.1.2.2.1,r20.2.1.2.2.2.1,r20.2.1.2.2.2.2.1,r24.1,r20.2.1.2.2.2.2.2.2),((0:Int),(0:Int),r20.1,(0:Int)),(0:Int))
abbrev Znb:=Spec.shp Zg3 Zjp Zc
def Z9j:Ctx:={ tb:=mkTb T2.tbl,fx:=[(112,[],Zna),(206,[],Znc),(167,[],Znh),(165,[],Spec.shpR Zg7 Zjt Zl),(205,[],Zng),(209,[],Zni),(166,[],Spec.shpR Zg6 Zjs Zi),(208,[],Znk),(171,[],Zql)],sum:=[],nt:=128,pin:=0,nr:=true,ys:=[] }
theorem Zd:Sound Tryz.prog 170 (Znb) :=
 Sound.shp (C:=Z9j) (fn:=Tryz.f170) (by kernel_rfl) (c:=bodyOf Tryz.f170) (by kernel_rfl) (by decide) (ctxOK mixed tbl_ok rfl ⟨Zb,Zf,Zr,Zn,Zp,Zt,Zk,Zx,Z75,trivial⟩ trivial) (SumOK.of trivial) (by kernel_rfl) Zg3 Zjp rfl (by decide) (by decide) rfl (by decide) rfl Zc (fun x=>by kernel_rfl)
abbrev Zie:Shape:={ sl:=[(0,(.hole y21))],bl:=[],ts:=[y21],pin:=0 }
abbrev Zm0:Shape:={ sl:=[(0,(.hole y21)),(1,(.hole (.int .i64))),(2,(.hole (.int .i64)))],bl:=[],ts:=[y21,(.int .i64),(.int .i64)],pin:=0 }
def Z52 (x:(T16)):Option (T16 × Int × Int) :=
 (Z56 x).bind fun r25 =>
 bif (Bool.not r25) then
 some (((0:Int),(0:Int),([]:List Int),(0:Int)),(0:Int),(1:Int))
 else
 bif (x.2.2.2 == (0:Int)) then
 some (((0:Int),(0:Int),([]:List Int),(0:Int)),(0:Int),(4:Int))
 else
 (Z5c (x,(0:Int))).bind fun r26 =>
 bif (inb r26 (List.length x.2.2.1)) then
 (Z5c (x,(1:Int))).bind fun r27 =>
 some ((x.1,r27,x.2.2.1,(IntKind.wrap .i64 (x.2.2.2 - (1:Int)))),(getAt (0:Int) x.2.2.1 (toN r26)),(0:Int))
 else
 none
abbrev Zpl:=Spec.shp Zie Zm0 Z52
def Zch:Ctx:={ tb:=mkTb T2.tbl,fx:=[(196,[],Zpn),(232,[],Zpq)],sum:=[],nt:=34,pin:=0,nr:=true,ys:=[] }
theorem Z53:Sound Tryz.prog 234 (Zpl) :=
 Sound.shp (C:=Zch) (fn:=Tryz.f234) (by kernel_rfl) (c:=bodyOf Tryz.f234) (by kernel_rfl) (by decide) (ctxOK mixed tbl_ok rfl ⟨Z57,Z5f,trivial⟩ trivial) (SumOK.of trivial) (by kernel_rfl) Zie Zm0 rfl (by decide) (by decide) rfl (by decide) rfl Z52 (fun x=>by kernel_rfl)
abbrev Zgb:Shape:={ sl:=sl_15,bl:=bl_12,ts:=[y42],pin:=0 }
abbrev Zjx:Shape:={ sl:=sl_2,bl:=bl_12,ts:=[(.int .i64),y42],pin:=1 }
def Zu (x:(T46)):Option (Int × T46) :=
 (Z52 x.1.2.2.1).bind fun r24 =>
 some (r24.2.1,(x.1.1,x.1.2.1,r24.1,x.1.2.2.2.1,(IntKind.wrap .i64 (x.1.2.2.2.2.1+(1:Int))),x.1.2.2.2.2.2),x.2)
abbrev Znj:=Spec.shp Zgb Zjx Zu
def Z9s:Ctx:={ tb:=mkTb T2.tbl,fx:=[(234,[],Zpl)],sum:=[],nt:=28,pin:=1,nr:=true,ys:=[] }
theorem Zv:Sound Tryz.prog 207 (Znj) :=
 Sound.shp (C:=Z9s) (fn:=Tryz.f207) (by kernel_rfl) (c:=bodyOf Tryz.f207) (by kernel_rfl) (by decide) (ctxOK mixed tbl_ok rfl ⟨Z53,trivial⟩ trivial) (SumOK.of trivial) (by kernel_rfl) Zgb Zjx rfl (by decide) (by decide) rfl (by decide) rfl Zu (fun x=>by kernel_rfl)
abbrev Zg1:Shape:={ sl:=sl_27,bl:=[],ts:=[y40,y5],pin:=0 }
abbrev Zjn:Shape:={ sl:=sl_28,bl:=[],ts:=[y40,y30,(.int .i64)],pin:=0 }
def Z8 (x:T45):Option T48 :=
 (Za x.1).bind fun r18 =>
 bif (Bool.not r18) then
 some (((0:Int),false,((0:Int),(0:Int),([]:List Int),(0:Int)),(0:Int),(0:Int),([]:List T7),([]:List T7)),((0:Int),(0:Int),((0:Int),(0:Int),(0:Int)),(0:Int)),(1:Int))
 else
 (Ze x.2).bind fun r19 =>
 bif (Bool.not r19) then
 some (((0:Int),false,((0:Int),(0:Int),([]:List Int),(0:Int)),(0:Int),(0:Int),([]:List T7),([]:List T7)),((0:Int),(0:Int),((0:Int),(0:Int),(0:Int)),(0:Int)),(1:Int))
 else
 (Zq (x.1.2.2.2.2.2.1,x.1,x.2.1)).bind fun r20 =>
 bif (r20.1.1 != (Int.negSucc 0)) then
 bif (r20.2.1.2.2.2.1 == (1048576:Int)) then
 some (((0:Int),false,((0:Int),(0:Int),([]:List Int),(0:Int)),(0:Int),(0:Int),([]:List T7),([]:List T7)),((0:Int),(0:Int),((0:Int),(0:Int),(0:Int)),(0:Int)),(5:Int))
 else
 (Zo (r20.1.1,r20.2)).bind fun r21 =>
 (Zl r21).bind fun r22 =>
 bif r22.1 then
 some (x.1,((0:Int),(0:Int),r20.1,(0:Int)),(0:Int))
 else
 bif (decide (r21.1.2.2.1.2.2.2 > (0:Int))) then
 (Zu r21).bind fun r23 =>
 bif (r20.1.1 != (Int.negSucc 0)) then
 (Zw r23.2).bind fun r24 =>
 some (r24.2.1,((1:Int),r23.1,r20.1,r24.1),(0:Int))
 else
 some (r23.2.1,((1:Int),r23.1,r20.1,(0:Int)),(0:Int))
 else
 bif (r20.1.1 != (Int.negSucc 0)) then
 (Zs r21).bind fun r23 =>
 some (r23.2.1,((1:Int),r23.1,r20.1,r23.1),(0:Int))
 else
 bif r21.1.2.1 then
 some (x.1,((2:Int),(0:Int),r20.1,(0:Int)),(0:Int))
 else
 (Z74 (r21.1.2.2.2.2.2.2,x.2)).bind fun r23 =>
 bif (r23.2 != (0:Int)) then
 some (((0:Int),false,((0:Int),(0:Int),([]:List Int),(0:Int)),(0:Int),(0:Int),([]:List T7),([]:List T7)),((0:Int),(0:Int),((0:Int),(0:Int),(0:Int)),(0:Int)),r23.2)
 else
 some ((r21.1.1,r21.1.2.1,r21.1.2.2.1,r21.1.2.2.2.1,r21.1.2.2.2.2.1,r21.1.2.2.2.2.2.1,r23.1),((0:Int),(0:Int),r20.1,(0:Int)),(0:Int))
 else
 (Zl r20.2).bind fun r21 =>
 bif r21.1 then
 some (x.1,((0:Int),(0:Int),r20.1,(0:Int)),(0:Int))
 else
 bif (decide (r20.2.1.2.2.1.2.2.2 > (0:Int))) then
 (Zu r20.2).bind fun r22 =>
 bif (r20.1.1 != (Int.negSucc 0)) then
 (Zw r22.2).bind fun r23 =>
 some (r23.2.1,((1:Int),r22.1,r20.1,r23.1),(0:Int))
 else
 some (r22.2.1,((1:Int),r22.1,r20.1,(0:Int)),(0:Int))
 else
 bif (r20.1.1 != (Int.negSucc 0)) then
 (Zs r20.2).bind fun r22 =>
 some (r22.2.1,((1:Int),r22.1,r20.1,r22.1),(0:Int))
 else
 bif r20.2.1.2.1 then
 some (x.1,((2:Int),(0:Int),r20.1,(0:Int)),(0:Int))
 else
 (Z74 (r20.2.1.2.2.2.2.2.2,x.2)).bind fun r22 =>
 bif (r22.2 != (0:Int)) then
 some (((0:Int),false,((0:Int),(0:Int),([]:List Int),(0:Int)),(0:Int),(0:Int),([]:List T7),([]:List T7)),((0:Int),(0:Int),((0:Int),(0:Int),(0:Int)),(0:Int)),r22.2)
 else
 some ((r20.2.1.1,r20.2.1.2.1,r20.2.1.2.2.1,r20.2.1.2.2.2.1,r20.2.1.2.2.2.2.1,r20.2.1.2.2.2.2.2.1,r22.1),((0:Int),(0:Int),r20.1,(0:Int)),(0:Int))
abbrev Zn9:=Spec.shp Zg1 Zjn Z8
def Z9h:Ctx:={ tb:=mkTb T2.tbl,fx:=[(112,[],Zna),(206,[],Znc),(167,[],Znh),(205,[],Zng),(165,[],Spec.shpR Zg7 Zjt Zl),(207,[],Znj),(208,[],Znk),(209,[],Zni),(171,[],Zql)],sum:=[],nt:=130,pin:=0,nr:=true,ys:=[] }
theorem Z9:Sound Tryz.prog 169 (Zn9) :=
 Sound.shp (C:=Z9h) (fn:=Tryz.f169) (by kernel_rfl) (c:=bodyOf Tryz.f169) (by kernel_rfl) (by decide) (ctxOK mixed tbl_ok rfl ⟨Zb,Zf,Zr,Zp,Zn,Zv,Zx,Zt,Z75,trivial⟩ trivial) (SumOK.of trivial) (by kernel_rfl) Zg1 Zjn rfl (by decide) (by decide) rfl (by decide) rfl Z8 (fun x=>by kernel_rfl)
abbrev Zh4:Shape:={ sl:=sl_29,bl:=bl_2,ts:=[y5,(.int .i64),.bool,y39,y4,y18,y41,y19,y26,y27],pin:=0 }
abbrev Zkq:Shape:={ sl:=[(0,(.hole y30))],bl:=bl_2,ts:=[y30,y39,y4,y18,y41,y19,y26,y27],pin:=1 }
def Z2g (x:(T7 × Int × Bool × T47 × (Int × Int) × List (T17) × List T43 × List (T18) × List T29 × List (T20))):Option ((Int × T23) × T47 × (Int × Int) × List (T17) × List T43 × List (T18) × List T29 × List (T20)) :=
 bif x.2.2.1 then
 bif (inb x.2.1 (List.length x.2.2.2.2.2.2.1)) then
 (Zc ((getAt ((0:Int),false,((0:Int),(0:Int),([]:List Int),(0:Int)),(0:Int),(0:Int),([]:List T7),([]:List T7)) x.2.2.2.2.2.2.1 (toN x.2.1)),x.1)).bind fun r17 =>
 bif (inb x.2.1 (List.length x.2.2.2.2.2.2.1)) then
 some (r17.2.1,x.2.2.2.1,x.2.2.2.2.1,x.2.2.2.2.2.1,(List.set x.2.2.2.2.2.2.1 (toN x.2.1) r17.1),x.2.2.2.2.2.2.2.1,x.2.2.2.2.2.2.2.2.1,x.2.2.2.2.2.2.2.2.2)
 else
 none
 else
 none
 else
 bif (inb x.2.1 (List.length x.2.2.2.2.2.2.1)) then
 (Z8 ((getAt ((0:Int),false,((0:Int),(0:Int),([]:List Int),(0:Int)),(0:Int),(0:Int),([]:List T7),([]:List T7)) x.2.2.2.2.2.2.1 (toN x.2.1)),x.1)).bind fun r17 =>
 bif (inb x.2.1 (List.length x.2.2.2.2.2.2.1)) then
 some (r17.2.1,x.2.2.2.1,x.2.2.2.2.1,x.2.2.2.2.2.1,(List.set x.2.2.2.2.2.2.1 (toN x.2.1) r17.1),x.2.2.2.2.2.2.2.1,x.2.2.2.2.2.2.2.2.1,x.2.2.2.2.2.2.2.2.2)
 else
 none
 else
 none
abbrev Zoc:=Spec.shp Zh4 Zkq Z2g
def Zat:Ctx:={ tb:=mkTb T2.tbl,fx:=[(170,[],Znb),(169,[],Zn9)],sum:=[],nt:=38,pin:=1,nr:=true,ys:=[] }
theorem Z2h:Sound Tryz.prog 124 (Zoc) :=
 Sound.shp (C:=Zat) (fn:=Tryz.f124) (by kernel_rfl) (c:=bodyOf Tryz.f124) (by kernel_rfl) (by decide) (ctxOK mixed tbl_ok rfl ⟨Zd,Z9,trivial⟩ trivial) (SumOK.of trivial) (by kernel_rfl) Zh4 Zkq rfl (by decide) (by decide) rfl (by decide) rfl Z2g (fun x=>by kernel_rfl)
abbrev Zhi:Shape:={ sl:=sl_25,bl:=bl_2,ts:=ts_10,pin:=0 }
abbrev Zl4:Shape:={ sl:=[],bl:=bl_2,ts:=ts_11,pin:=1 }
def Z39 (x:T58):Option T57 :=
 bif (inb x.1 (List.length x.2.2.2.1)) then
 some (x.2.1,x.2.2.1,(List.set x.2.2.2.1 (toN x.1) ((getAt ((0:Int),(0:Int),(0:Int),false) x.2.2.2.1 (toN x.1)).1,(getAt ((0:Int),(0:Int),(0:Int),false) x.2.2.2.1 (toN x.1)).2.1,(1:Int),(getAt ((0:Int),(0:Int),(0:Int),false) x.2.2.2.1 (toN x.1)).2.2.2)),x.2.2.2.2.1,x.2.2.2.2.2.1,x.2.2.2.2.2.2.1,x.2.2.2.2.2.2.2)
 else
 none
abbrev Zoq:=Spec.shp Zhi Zl4 Z39
def Zb9:Ctx:={ tb:=mkTb T2.tbl,fx:=[],sum:=[],nt:=12,pin:=1,nr:=true,ys:=[] }
theorem Z3a:Sound Tryz.prog 125 (Zoq) :=
 Sound.shp (C:=Zb9) (fn:=Tryz.f125) (by kernel_rfl) (c:=bodyOf Tryz.f125) (by kernel_rfl) (by decide) (ctxOK mixed tbl_ok rfl trivial trivial) (SumOK.of trivial) (by kernel_rfl) Zhi Zl4 rfl (by decide) (by decide) rfl (by decide) rfl Z39 (fun x=>by kernel_rfl)
abbrev Zfy:Shape:={ sl:=sl_13,bl:=[],ts:=[y40,(.int .i64)],pin:=0 }
abbrev Zjk:Shape:={ sl:=sl_13,bl:=[],ts:=[y40,(.int .i64)],pin:=0 }
def Z2 (x:T46):Option T46 :=
 (Za x.1).bind fun r23 =>
 bif (Bool.not r23) then
 some (((0:Int),false,((0:Int),(0:Int),([]:List Int),(0:Int)),(0:Int),(0:Int),([]:List T7),([]:List T7)),(1:Int))
 else
 bif (decide (x.2 < (0:Int))) then
 some (((0:Int),false,((0:Int),(0:Int),([]:List Int),(0:Int)),(0:Int),(0:Int),([]:List T7),([]:List T7)),(1:Int))
 else
 (Zo (x.2,x.1,x.2)).bind fun r24 =>
 some (r24.1,(0:Int))
abbrev Zn6:=Spec.shp Zfy Zjk Z2
def Z9e:Ctx:={ tb:=mkTb T2.tbl,fx:=[(112,[],Zna),(205,[],Zng)],sum:=[],nt:=26,pin:=0,nr:=true,ys:=[] }
theorem Z3:Sound Tryz.prog 168 (Zn6) :=
 Sound.shp (C:=Z9e) (fn:=Tryz.f168) (by kernel_rfl) (c:=bodyOf Tryz.f168) (by kernel_rfl) (by decide) (ctxOK mixed tbl_ok rfl ⟨Zb,Zp,trivial⟩ trivial) (SumOK.of trivial) (by kernel_rfl) Zfy Zjk rfl (by decide) (by decide) rfl (by decide) rfl Z2 (fun x=>by kernel_rfl)
abbrev Zf5:Shape:={ sl:=[(0,(.ptr 0 [])),(6,(.ptr 1 [])),(98,(.sl 2)),(99,(.hole (.int .i64))),(100,(.hole (.int .i64)))],bl:=[.var (.pr (.pr (.hole y39) (.pr (.sl 3) (.pr (.sl 2) (.pr (.sl 4) (.pr (.sl 5) (.hole y4)))))) (.sl 6)),.var (.hole y5),.row y40,.row y12,.row y15,.row y23,.row y24],ts:=[(.int .i64),(.int .i64),y39,y4,y5,y41,y18,y19,y26,y27],pin:=1 }
abbrev Ze6:List (ETag × Shape):=[(.exit 1,{ sl:=[],bl:=bl_2,ts:=ts_11,pin:=1 })]
def Z7s (x:(Int × Int × T47 × (Int × Int) × T7 × List T43 × List (T17) × List (T18) × List T29 × List (T20))):Option ((Int × Int × T47 × (Int × Int) × T7 × List T43 × List (T17) × List (T18) × List T29 × List (T20)) ⊕ (T57)) :=
 bif (decide (x.2.1 < x.1)) then
 bif (inb x.2.1 (List.length x.2.2.2.2.2.1)) then
 (Z2 ((getAt ((0:Int),false,((0:Int),(0:Int),([]:List Int),(0:Int)),(0:Int),(0:Int),([]:List T7),([]:List T7)) x.2.2.2.2.2.1 (toN x.2.1)),x.2.2.2.2.1.1)).bind fun r22 =>
 bif (inb x.2.1 (List.length x.2.2.2.2.2.1)) then
 some (.inl (x.1,(IntKind.wrap .i64 (x.2.1+(1:Int))),x.2.2.1,x.2.2.2.1,x.2.2.2.2.1,(List.set x.2.2.2.2.2.1 (toN x.2.1) r22.1),x.2.2.2.2.2.2.1,x.2.2.2.2.2.2.2.1,x.2.2.2.2.2.2.2.2.1,x.2.2.2.2.2.2.2.2.2))
 else
 none
 else
 none
 else
 some (.inr (x.2.2.1,x.2.2.2.1,x.2.2.2.2.2.2.1,x.2.2.2.2.2.1,x.2.2.2.2.2.2.2.1,x.2.2.2.2.2.2.2.2.1,x.2.2.2.2.2.2.2.2.2))
def Zaj:Ctx:={ tb:=mkTb T2.tbl,fx:=[(78,[],Zo7),(40,[],Zoo),(120,[],Zo5),(168,[],Zn6)],sum:=[],nt:=120,pin:=1,nr:=true,ys:=[] }
theorem Z7t:CSound Tryz.prog ⟨120,1,true⟩ (.loop (loopOf 13 Tryz.f123)) (Yb0 Zf5 Ze6 (loop Z7s)) :=
 Y8i (C:=Zaj) (ctxOK mixed tbl_ok rfl ⟨Z27,Z36,Z23,Z3,trivial⟩ trivial) (SumOK.of trivial) Zf5 Ze6 rfl rfl Z7s (fun x=>by kernel_rfl)
abbrev Zgv:Shape:={ sl:=[(0,(.ptr 0 [])),(1,(.hole y5)),(2,(.hole (.int .i64))),(3,(.hole (.int .i64))),(4,(.hole (.int .i64)))],bl:=bl_2,ts:=[y5,(.int .i64),(.int .i64),(.int .i64),y39,y4,y18,y41,y19,y26,y27],pin:=0 }
abbrev Zkh:Shape:={ sl:=[],bl:=bl_2,ts:=ts_11,pin:=1 }
def Z1y (x:(T7 × Int × Int × Int × T47 × (Int × Int) × List (T17) × List T43 × List (T18) × List T29 × List (T20))):Option T57 :=
 (Z26 (x.1.1,x.2.2.2.2.1,x.2.2.2.2.2.1,x.2.2.2.2.2.2.1,x.2.2.2.2.2.2.2.1,x.2.2.2.2.2.2.2.2.1,x.2.2.2.2.2.2.2.2.2.1,x.2.2.2.2.2.2.2.2.2.2)).bind fun r18 =>
 bif (r18.1.1 == (1:Int)) then
 (Z35 (x.1.1,(3:Int),x.2.1,x.2.2.1,x.1.2.2,r18.2.1,r18.2.2.1,r18.2.2.2.1,r18.2.2.2.2.1,r18.2.2.2.2.2.1,r18.2.2.2.2.2.2.1,r18.2.2.2.2.2.2.2)).bind fun r19 =>
 (Z22 (x.1.1,r19.2.1,r19.2.2.1,r19.2.2.2.1,r19.2.2.2.2.1,r19.2.2.2.2.2.1,r19.2.2.2.2.2.2.1,r19.2.2.2.2.2.2.2)).bind fun r20 =>
 (loop Z7s ((((List.length r20.2.2.2.1):Nat):Int),(0:Int),r20.1,r20.2.1,x.1,r20.2.2.2.1,r20.2.2.1,r20.2.2.2.2.1,r20.2.2.2.2.2.1,r20.2.2.2.2.2.2)).bind fun r21 =>
 some (r21.1,r21.2.1,r21.2.2.1,r21.2.2.2.1,r21.2.2.2.2.1,r21.2.2.2.2.2.1,r21.2.2.2.2.2.2)
 else
 bif (r18.1.1 == (4:Int)) then
 bif (inb r18.1.2.1 (List.length r18.2.1.2.2.2.2.1)) then
 bif (inb x.1.2.1 (List.length (getAt (([]:List T0),false) r18.2.1.2.2.2.2.1 (toN r18.1.2.1)).1)) then
 bif (getAt (false,(0:Int)) (getAt (([]:List T0),false) r18.2.1.2.2.2.2.1 (toN r18.1.2.1)).1 (toN x.1.2.1)).1 then
 (Z35 (x.1.1,(3:Int),x.2.1,x.2.2.1,x.1.2.2,r18.2.1,r18.2.2.1,r18.2.2.2.1,r18.2.2.2.2.1,r18.2.2.2.2.2.1,r18.2.2.2.2.2.2.1,r18.2.2.2.2.2.2.2)).bind fun r19 =>
 (Z22 (x.1.1,r19.2.1,r19.2.2.1,r19.2.2.2.1,r19.2.2.2.2.1,r19.2.2.2.2.2.1,r19.2.2.2.2.2.2.1,r19.2.2.2.2.2.2.2)).bind fun r20 =>
 (loop Z7s ((((List.length r20.2.2.2.1):Nat):Int),(0:Int),r20.1,r20.2.1,x.1,r20.2.2.2.1,r20.2.2.1,r20.2.2.2.2.1,r20.2.2.2.2.2.1,r20.2.2.2.2.2.2)).bind fun r21 =>
 some (r21.1,r21.2.1,r21.2.2.1,r21.2.2.2.1,r21.2.2.2.2.1,r21.2.2.2.2.2.1,r21.2.2.2.2.2.2)
 else
 bif (x.2.2.2.1 == (2:Int)) then
 (Z35 (x.1.1,(6:Int),x.2.1,(0:Int),x.1.2.2,r18.2.1,r18.2.2.1,r18.2.2.2.1,r18.2.2.2.2.1,r18.2.2.2.2.2.1,r18.2.2.2.2.2.2.1,r18.2.2.2.2.2.2.2)).bind fun r19 =>
 bif (inb x.1.1 (List.length r19.2.2.2.1)) then
 (Z22 (x.1.1,r19.2.1,r19.2.2.1,(List.set r19.2.2.2.1 (toN x.1.1) ((getAt ((0:Int),(0:Int),(0:Int),false) r19.2.2.2.1 (toN x.1.1)).1,(getAt ((0:Int),(0:Int),(0:Int),false) r19.2.2.2.1 (toN x.1.1)).2.1,(getAt ((0:Int),(0:Int),(0:Int),false) r19.2.2.2.1 (toN x.1.1)).2.2.1,true)),r19.2.2.2.2.1,r19.2.2.2.2.2.1,r19.2.2.2.2.2.2.1,r19.2.2.2.2.2.2.2)).bind fun r20 =>
 (loop Z7s ((((List.length r20.2.2.2.1):Nat):Int),(0:Int),r20.1,r20.2.1,x.1,r20.2.2.2.1,r20.2.2.1,r20.2.2.2.2.1,r20.2.2.2.2.2.1,r20.2.2.2.2.2.2)).bind fun r21 =>
 some (r21.1,r21.2.1,r21.2.2.1,r21.2.2.2.1,r21.2.2.2.2.1,r21.2.2.2.2.2.1,r21.2.2.2.2.2.2)
 else
 none
 else
 (Z35 (x.1.1,(5:Int),x.2.1,x.2.2.1,x.1.2.2,r18.2.1,r18.2.2.1,r18.2.2.2.1,r18.2.2.2.2.1,r18.2.2.2.2.2.1,r18.2.2.2.2.2.2.1,r18.2.2.2.2.2.2.2)).bind fun r19 =>
 bif (inb x.1.1 (List.length r19.2.2.2.1)) then
 (Z22 (x.1.1,r19.2.1,r19.2.2.1,(List.set r19.2.2.2.1 (toN x.1.1) ((getAt ((0:Int),(0:Int),(0:Int),false) r19.2.2.2.1 (toN x.1.1)).1,(getAt ((0:Int),(0:Int),(0:Int),false) r19.2.2.2.1 (toN x.1.1)).2.1,(getAt ((0:Int),(0:Int),(0:Int),false) r19.2.2.2.1 (toN x.1.1)).2.2.1,false)),r19.2.2.2.2.1,r19.2.2.2.2.2.1,r19.2.2.2.2.2.2.1,r19.2.2.2.2.2.2.2)).bind fun r20 =>
 (loop Z7s ((((List.length r20.2.2.2.1):Nat):Int),(0:Int),r20.1,r20.2.1,x.1,r20.2.2.2.1,r20.2.2.1,r20.2.2.2.2.1,r20.2.2.2.2.2.1,r20.2.2.2.2.2.2)).bind fun r21 =>
 some (r21.1,r21.2.1,r21.2.2.1,r21.2.2.2.1,r21.2.2.2.2.1,r21.2.2.2.2.2.1,r21.2.2.2.2.2.2)
 else
 none
 else
 none
 else
 none
 else
 bif (x.2.2.2.1 == (2:Int)) then
 (Z35 (x.1.1,(6:Int),x.2.1,(0:Int),x.1.2.2,r18.2.1,r18.2.2.1,r18.2.2.2.1,r18.2.2.2.2.1,r18.2.2.2.2.2.1,r18.2.2.2.2.2.2.1,r18.2.2.2.2.2.2.2)).bind fun r19 =>
 bif (inb x.1.1 (List.length r19.2.2.2.1)) then
 (Z22 (x.1.1,r19.2.1,r19.2.2.1,(List.set r19.2.2.2.1 (toN x.1.1) ((getAt ((0:Int),(0:Int),(0:Int),false) r19.2.2.2.1 (toN x.1.1)).1,(getAt ((0:Int),(0:Int),(0:Int),false) r19.2.2.2.1 (toN x.1.1)).2.1,(getAt ((0:Int),(0:Int),(0:Int),false) r19.2.2.2.1 (toN x.1.1)).2.2.1,true)),r19.2.2.2.2.1,r19.2.2.2.2.2.1,r19.2.2.2.2.2.2.1,r19.2.2.2.2.2.2.2)).bind fun r20 =>
 (loop Z7s ((((List.length r20.2.2.2.1):Nat):Int),(0:Int),r20.1,r20.2.1,x.1,r20.2.2.2.1,r20.2.2.1,r20.2.2.2.2.1,r20.2.2.2.2.2.1,r20.2.2.2.2.2.2)).bind fun r21 =>
 some (r21.1,r21.2.1,r21.2.2.1,r21.2.2.2.1,r21.2.2.2.2.1,r21.2.2.2.2.2.1,r21.2.2.2.2.2.2)
 else
 none
 else
 (Z35 (x.1.1,(5:Int),x.2.1,x.2.2.1,x.1.2.2,r18.2.1,r18.2.2.1,r18.2.2.2.1,r18.2.2.2.2.1,r18.2.2.2.2.2.1,r18.2.2.2.2.2.2.1,r18.2.2.2.2.2.2.2)).bind fun r19 =>
 bif (inb x.1.1 (List.length r19.2.2.2.1)) then
 (Z22 (x.1.1,r19.2.1,r19.2.2.1,(List.set r19.2.2.2.1 (toN x.1.1) ((getAt ((0:Int),(0:Int),(0:Int),false) r19.2.2.2.1 (toN x.1.1)).1,(getAt ((0:Int),(0:Int),(0:Int),false) r19.2.2.2.1 (toN x.1.1)).2.1,(getAt ((0:Int),(0:Int),(0:Int),false) r19.2.2.2.1 (toN x.1.1)).2.2.1,false)),r19.2.2.2.2.1,r19.2.2.2.2.2.1,r19.2.2.2.2.2.2.1,r19.2.2.2.2.2.2.2)).bind fun r20 =>
 (loop Z7s ((((List.length r20.2.2.2.1):Nat):Int),(0:Int),r20.1,r20.2.1,x.1,r20.2.2.2.1,r20.2.2.1,r20.2.2.2.2.1,r20.2.2.2.2.2.1,r20.2.2.2.2.2.2)).bind fun r21 =>
 some (r21.1,r21.2.1,r21.2.2.1,r21.2.2.2.1,r21.2.2.2.2.1,r21.2.2.2.2.2.1,r21.2.2.2.2.2.2)
 else
 none
abbrev Zo3:=Spec.shp Zgv Zkh Z1y
def Zai:Ctx:={ tb:=mkTb T2.tbl,fx:=[(78,[],Zo7),(40,[],Zoo),(120,[],Zo5),(168,[],Zn6)],sum:=[(0,13,Yb0 Zf5 Ze6 (loop Z7s))],nt:=120,pin:=1,nr:=true,ys:=[] }
theorem Z1z:Sound Tryz.prog 123 (Zo3) :=
 Sound.shp (C:=Zai) (fn:=Tryz.f123) (by kernel_rfl) (c:=bodyOf Tryz.f123) (by kernel_rfl) (by decide) (ctxOK mixed tbl_ok rfl ⟨Z27,Z36,Z23,Z3,trivial⟩ trivial) (SumOK.of ⟨(Yb2 (d:=.loop (loopOf 13 Tryz.f123)) (by kernel_rfl) Z7t),trivial⟩) (by kernel_rfl) Zgv Zkh rfl (by decide) (by decide) rfl (by decide) rfl Z1y (fun x=>by kernel_rfl)
abbrev Zh6:Shape:={ sl:=sl_29,bl:=bl_2,ts:=[y5,(.int .i64),.bool,y39,y4,y18,y41,y19,y26,y27],pin:=0 }
abbrev Zks:Shape:={ sl:=[],bl:=bl_2,ts:=ts_11,pin:=1 }
def Z2k (x:(T7 × Int × Bool × T47 × (Int × Int) × List (T17) × List T43 × List (T18) × List T29 × List (T20))):Option T57 :=
 (Z2g (x.1,x.2.1,x.2.2.1,x.2.2.2.1,x.2.2.2.2.1,x.2.2.2.2.2.1,x.2.2.2.2.2.2.1,x.2.2.2.2.2.2.2.1,x.2.2.2.2.2.2.2.2.1,x.2.2.2.2.2.2.2.2.2)).bind fun r16 =>
 bif (r16.1.1 == (0:Int)) then
 (Z39 (x.1.1,r16.2.1,r16.2.2.1,r16.2.2.2.1,r16.2.2.2.2.1,r16.2.2.2.2.2.1,r16.2.2.2.2.2.2.1,r16.2.2.2.2.2.2.2)).bind fun r17 =>
 some (r17.1,r17.2.1,r17.2.2.1,r17.2.2.2.1,r17.2.2.2.2.1,r17.2.2.2.2.2.1,r17.2.2.2.2.2.2)
 else
 bif (r16.1.1 == (3:Int)) then
 some (r16.2.1,(r16.2.2.1.1,(3:Int)),r16.2.2.2.1,r16.2.2.2.2.1,r16.2.2.2.2.2.1,r16.2.2.2.2.2.2.1,r16.2.2.2.2.2.2.2)
 else
 bif (r16.1.2.2.1.1 != (Int.negSucc 0)) then
 (Z1y (r16.1.2.2.1,x.2.1,r16.1.2.2.2,(1:Int),r16.2.1,r16.2.2.1,r16.2.2.2.1,r16.2.2.2.2.1,r16.2.2.2.2.2.1,r16.2.2.2.2.2.2.1,r16.2.2.2.2.2.2.2)).bind fun r17 =>
 (Z1y (x.1,x.2.1,r16.1.2.1,r16.1.1,r17.1,r17.2.1,r17.2.2.1,r17.2.2.2.1,r17.2.2.2.2.1,r17.2.2.2.2.2.1,r17.2.2.2.2.2.2)).bind fun r18 =>
 some (r18.1,r18.2.1,r18.2.2.1,r18.2.2.2.1,r18.2.2.2.2.1,r18.2.2.2.2.2.1,r18.2.2.2.2.2.2)
 else
 (Z1y (x.1,x.2.1,r16.1.2.1,r16.1.1,r16.2.1,r16.2.2.1,r16.2.2.2.1,r16.2.2.2.2.1,r16.2.2.2.2.2.1,r16.2.2.2.2.2.2.1,r16.2.2.2.2.2.2.2)).bind fun r17 =>
 some (r17.1,r17.2.1,r17.2.2.1,r17.2.2.2.1,r17.2.2.2.2.1,r17.2.2.2.2.2.1,r17.2.2.2.2.2.2)
abbrev Zoe:=Spec.shp Zh6 Zks Z2k
def Zav:Ctx:={ tb:=mkTb T2.tbl,fx:=[(124,[],Zoc),(125,[],Zoq),(123,[],Zo3)],sum:=[],nt:=47,pin:=1,nr:=true,ys:=[] }
theorem Z2l:Sound Tryz.prog 121 (Zoe) :=
 Sound.shp (C:=Zav) (fn:=Tryz.f121) (by kernel_rfl) (c:=bodyOf Tryz.f121) (by kernel_rfl) (by decide) (ctxOK mixed tbl_ok rfl ⟨Z2h,Z3a,Z1z,trivial⟩ trivial) (SumOK.of trivial) (by kernel_rfl) Zh6 Zks rfl (by decide) (by decide) rfl (by decide) rfl Z2k (fun x=>by kernel_rfl)
abbrev Zha:Shape:={ sl:=sl_26,bl:=bl_2,ts:=ts_14,pin:=0 }
abbrev Zkw:Shape:={ sl:=[],bl:=bl_2,ts:=ts_11,pin:=1 }
def Z2s (x:T60):Option T57 :=
 (Z35 (x.1.1,(2:Int),x.2.1.2.1,(0:Int),(Int.negSucc 0),x.2.2.1,x.2.2.2.1,x.2.2.2.2.1,x.2.2.2.2.2.1,x.2.2.2.2.2.2.1,x.2.2.2.2.2.2.2.1,x.2.2.2.2.2.2.2.2)).bind fun r14 =>
 (Z2k ((x.1.1,(0:Int),r14.1),x.2.1.2.1,true,r14.2.1,r14.2.2.1,r14.2.2.2.1,r14.2.2.2.2.1,r14.2.2.2.2.2.1,r14.2.2.2.2.2.2.1,r14.2.2.2.2.2.2.2)).bind fun r15 =>
 some (r15.1,r15.2.1,r15.2.2.1,r15.2.2.2.1,r15.2.2.2.2.1,r15.2.2.2.2.2.1,r15.2.2.2.2.2.2)
abbrev Zoi:=Spec.shp Zha Zkw Z2s
def Zb0:Ctx:={ tb:=mkTb T2.tbl,fx:=[(40,[],Zoo),(121,[],Zoe)],sum:=[],nt:=21,pin:=1,nr:=true,ys:=[] }
theorem Z2t:Sound Tryz.prog 65 (Zoi) :=
 Sound.shp (C:=Zb0) (fn:=Tryz.f65) (by kernel_rfl) (c:=bodyOf Tryz.f65) (by kernel_rfl) (by decide) (ctxOK mixed tbl_ok rfl ⟨Z36,Z2l,trivial⟩ trivial) (SumOK.of trivial) (by kernel_rfl) Zha Zkw rfl (by decide) (by decide) rfl (by decide) rfl Z2s (fun x=>by kernel_rfl)
abbrev Zh8:Shape:={ sl:=sl_26,bl:=bl_2,ts:=ts_14,pin:=0 }
abbrev Zku:Shape:={ sl:=[],bl:=bl_2,ts:=ts_11,pin:=1 }
def Z2o (x:T60):Option T57 :=
 (Z35 (x.1.1,(4:Int),x.2.1.2.1,(0:Int),(Int.negSucc 0),x.2.2.1,x.2.2.2.1,x.2.2.2.2.1,x.2.2.2.2.2.1,x.2.2.2.2.2.2.1,x.2.2.2.2.2.2.2.1,x.2.2.2.2.2.2.2.2)).bind fun r14 =>
 (Z2k ((x.1.1,(0:Int),r14.1),x.2.1.2.1,false,r14.2.1,r14.2.2.1,r14.2.2.2.1,r14.2.2.2.2.1,r14.2.2.2.2.2.1,r14.2.2.2.2.2.2.1,r14.2.2.2.2.2.2.2)).bind fun r15 =>
 some (r15.1,r15.2.1,r15.2.2.1,r15.2.2.2.1,r15.2.2.2.2.1,r15.2.2.2.2.2.1,r15.2.2.2.2.2.2)
abbrev Zog:=Spec.shp Zh8 Zku Z2o
def Zax:Ctx:={ tb:=mkTb T2.tbl,fx:=[(40,[],Zoo),(121,[],Zoe)],sum:=[],nt:=21,pin:=1,nr:=true,ys:=[] }
theorem Z2p:Sound Tryz.prog 66 (Zog) :=
 Sound.shp (C:=Zax) (fn:=Tryz.f66) (by kernel_rfl) (c:=bodyOf Tryz.f66) (by kernel_rfl) (by decide) (ctxOK mixed tbl_ok rfl ⟨Z36,Z2l,trivial⟩ trivial) (SumOK.of trivial) (by kernel_rfl) Zh8 Zku rfl (by decide) (by decide) rfl (by decide) rfl Z2o (fun x=>by kernel_rfl)
abbrev Zfx:Shape:={ sl:=[(0,(.hole y40))],bl:=[],ts:=[y40],pin:=0 }
abbrev Zjj:Shape:={ sl:=[(0,(.hole y40)),(1,(.hole (.slice y5))),(2,(.hole .bool)),(3,(.hole (.int .i64)))],bl:=[],ts:=[y40,(.slice y5),.bool,(.int .i64)],pin:=0 }
def Z0 (x:T43):Option ((Int × T40) × List (T7) × Bool × Int) :=
 (Za x).bind fun r15 =>
 bif (Bool.not r15) then
 some (((0:Int),false,((0:Int),(0:Int),([]:List Int),(0:Int)),(0:Int),(0:Int),([]:List T7),([]:List T7)),([]:List T7),false,(1:Int))
 else
 bif (decide (x.1 < (0:Int))) then
 some (x,([]:List T7),true,(0:Int))
 else
 bif x.2.1 then
 some (x,([]:List T7),true,(0:Int))
 else
 bif (decide ((((List.length x.2.2.2.2.2.1):Nat):Int) > (0:Int))) then
 some (x,([]:List T7),true,(0:Int))
 else
 some ((x.1,true,x.2.2.1,x.2.2.2.1,x.2.2.2.2.1,x.2.2.2.2.2.1,([]:List T7)),x.2.2.2.2.2.2,false,(0:Int))
abbrev Zn5:=Spec.shp Zfx Zjj Z0
def Z9d:Ctx:={ tb:=mkTb T2.tbl,fx:=[(112,[],Zna)],sum:=[],nt:=31,pin:=0,nr:=true,ys:=[] }
theorem Z1:Sound Tryz.prog 122 (Zn5) :=
 Sound.shp (C:=Z9d) (fn:=Tryz.f122) (by kernel_rfl) (c:=bodyOf Tryz.f122) (by kernel_rfl) (by decide) (ctxOK mixed tbl_ok rfl ⟨Zb,trivial⟩ trivial) (SumOK.of trivial) (by kernel_rfl) Zfx Zjj rfl (by decide) (by decide) rfl (by decide) rfl Z0 (fun x=>by kernel_rfl)
abbrev Zf8:Shape:={ sl:=[(0,(.ptr 0 [])),(5,(.ptr 1 [])),(10,(.mp 2)),(53,(.hole (.slice y5))),(54,(.hole (.int .i64))),(55,(.hole (.int .i64)))],bl:=[.var (.pr (.pr (.hole y39) (.pr (.sl 3) (.pr (.sl 4) (.pr (.sl 5) (.pr (.sl 6) (.hole y4)))))) (.sl 7)),.var (.hole y5),.mp (.int .i64) (.int .i64),.row y12,.row y40,.row y15,.row y23,.row y24],ts:=[(.slice y5),(.int .i64),(.int .i64),y39,y4,y5,(.slice y4),y18,y41,y19,y26,y27],pin:=1 }
abbrev Ze9:List (ETag × Shape):=[(.exit 0,{ sl:=[],bl:=bl_2,ts:=ts_11,pin:=1 })]
def Z7y (x:(List (T7) × Int × Int × T47 × (Int × Int) × T7 × List (Int × Int) × List (T17) × List T43 × List (T18) × List T29 × List (T20))):Option ((List (T7) × Int × Int × T47 × (Int × Int) × T7 × List (Int × Int) × List (T17) × List T43 × List (T18) × List T29 × List (T20)) ⊕ (T57)) :=
 bif (decide (x.2.2.1 < x.2.1)) then
 bif (inb x.2.2.1 (List.length x.1)) then
 bif ((@mlook (Int) (Int) (Ty.beq (.int .i64)) (Ty.zero (.int .i64)) (getAt ((0:Int),(0:Int),(0:Int)) x.1 (toN x.2.2.1)).1 (@mput (Int) (Int) (Ty.beq (.int .i64)) (getAt ((0:Int),(0:Int),(0:Int)) x.1 (toN x.2.2.1)).1 (IntKind.wrap .i64 ((@mlook (Int) (Int) (Ty.beq (.int .i64)) (Ty.zero (.int .i64)) (getAt ((0:Int),(0:Int),(0:Int)) x.1 (toN x.2.2.1)).1 x.2.2.2.2.2.2.1)+(1:Int))) x.2.2.2.2.2.2.1)) == (1:Int)) then
 (Z1y ((getAt ((0:Int),(0:Int),(0:Int)) x.1 (toN x.2.2.1)),x.2.2.2.2.2.1.2.1,(0:Int),(2:Int),x.2.2.2.1,x.2.2.2.2.1,x.2.2.2.2.2.2.2.1,x.2.2.2.2.2.2.2.2.1,x.2.2.2.2.2.2.2.2.2.1,x.2.2.2.2.2.2.2.2.2.2.1,x.2.2.2.2.2.2.2.2.2.2.2)).bind fun r18 =>
 some (.inl (x.1,x.2.1,(IntKind.wrap .i64 (x.2.2.1+(1:Int))),r18.1,r18.2.1,x.2.2.2.2.2.1,(@mput (Int) (Int) (Ty.beq (.int .i64)) (getAt ((0:Int),(0:Int),(0:Int)) x.1 (toN x.2.2.1)).1 (IntKind.wrap .i64 ((@mlook (Int) (Int) (Ty.beq (.int .i64)) (Ty.zero (.int .i64)) (getAt ((0:Int),(0:Int),(0:Int)) x.1 (toN x.2.2.1)).1 x.2.2.2.2.2.2.1)+(1:Int))) x.2.2.2.2.2.2.1),r18.2.2.1,r18.2.2.2.1,r18.2.2.2.2.1,r18.2.2.2.2.2.1,r18.2.2.2.2.2.2))
 else
 some (.inl (x.1,x.2.1,(IntKind.wrap .i64 (x.2.2.1+(1:Int))),x.2.2.2.1,x.2.2.2.2.1,x.2.2.2.2.2.1,(@mput (Int) (Int) (Ty.beq (.int .i64)) (getAt ((0:Int),(0:Int),(0:Int)) x.1 (toN x.2.2.1)).1 (IntKind.wrap .i64 ((@mlook (Int) (Int) (Ty.beq (.int .i64)) (Ty.zero (.int .i64)) (getAt ((0:Int),(0:Int),(0:Int)) x.1 (toN x.2.2.1)).1 x.2.2.2.2.2.2.1)+(1:Int))) x.2.2.2.2.2.2.1),x.2.2.2.2.2.2.2.1,x.2.2.2.2.2.2.2.2.1,x.2.2.2.2.2.2.2.2.2.1,x.2.2.2.2.2.2.2.2.2.2.1,x.2.2.2.2.2.2.2.2.2.2.2))
 else
 none
 else
 some (.inr (x.2.2.2.1,x.2.2.2.2.1,x.2.2.2.2.2.2.2.1,x.2.2.2.2.2.2.2.2.1,x.2.2.2.2.2.2.2.2.2.1,x.2.2.2.2.2.2.2.2.2.2.1,x.2.2.2.2.2.2.2.2.2.2.2))
def Zb5:Ctx:={ tb:=mkTb T2.tbl,fx:=[(122,[],Zn5),(40,[],Zoo),(120,[],Zo5),(123,[],Zo3)],sum:=[],nt:=75,pin:=1,nr:=true,ys:=[] }
theorem Z7z:CSound Tryz.prog ⟨75,1,true⟩ (.loop (loopOf 10 Tryz.f67)) (Yb0 Zf8 Ze9 (loop Z7y)) :=
 Y8i (C:=Zb5) (ctxOK mixed tbl_ok rfl ⟨Z1,Z36,Z23,Z1z,trivial⟩ trivial) (SumOK.of trivial) Zf8 Ze9 rfl rfl Z7y (fun x=>by kernel_rfl)
abbrev Zhe:Shape:={ sl:=sl_26,bl:=bl_2,ts:=ts_14,pin:=0 }
abbrev Zl0:Shape:={ sl:=[],bl:=bl_2,ts:=ts_11,pin:=1 }
def Z31 (x:T60):Option T57 :=
 bif (inb x.2.1.2.1 (List.length x.2.2.2.2.2.1)) then
 (Z0 (getAt ((0:Int),false,((0:Int),(0:Int),([]:List Int),(0:Int)),(0:Int),(0:Int),([]:List T7),([]:List T7)) x.2.2.2.2.2.1 (toN x.2.1.2.1))).bind fun r14 =>
 bif r14.2.2.1 then
 some (x.2.2.1,(x.2.2.2.1.1,(3:Int)),x.2.2.2.2.1,x.2.2.2.2.2.1,x.2.2.2.2.2.2.1,x.2.2.2.2.2.2.2.1,x.2.2.2.2.2.2.2.2)
 else
 bif (inb x.2.1.2.1 (List.length x.2.2.2.2.2.1)) then
 (Z35 (x.1.1,(7:Int),x.2.1.2.1,(0:Int),(Int.negSucc 0),x.2.2.1,x.2.2.2.1,x.2.2.2.2.1,(List.set x.2.2.2.2.2.1 (toN x.2.1.2.1) r14.1),x.2.2.2.2.2.2.1,x.2.2.2.2.2.2.2.1,x.2.2.2.2.2.2.2.2)).bind fun r15 =>
 (Z22 (x.1.1,r15.2.1,r15.2.2.1,r15.2.2.2.1,r15.2.2.2.2.1,r15.2.2.2.2.2.1,r15.2.2.2.2.2.2.1,r15.2.2.2.2.2.2.2)).bind fun r16 =>
 (loop Z7y (r14.2.1,(((List.length r14.2.1):Nat):Int),(0:Int),r16.1,r16.2.1,x.2.1,([]:List (Int × Int)),r16.2.2.1,r16.2.2.2.1,r16.2.2.2.2.1,r16.2.2.2.2.2.1,r16.2.2.2.2.2.2)).bind fun r17 =>
 some (r17.1,r17.2.1,r17.2.2.1,r17.2.2.2.1,r17.2.2.2.2.1,r17.2.2.2.2.2.1,r17.2.2.2.2.2.2)
 else
 none
 else
 none
abbrev Zom:=Spec.shp Zhe Zl0 Z31
def Zb4:Ctx:={ tb:=mkTb T2.tbl,fx:=[(122,[],Zn5),(40,[],Zoo),(120,[],Zo5),(123,[],Zo3)],sum:=[(0,10,Yb0 Zf8 Ze9 (loop Z7y))],nt:=75,pin:=1,nr:=true,ys:=[] }
theorem Z32:Sound Tryz.prog 67 (Zom) :=
 Sound.shp (C:=Zb4) (fn:=Tryz.f67) (by kernel_rfl) (c:=bodyOf Tryz.f67) (by kernel_rfl) (by decide) (ctxOK mixed tbl_ok rfl ⟨Z1,Z36,Z23,Z1z,trivial⟩ trivial) (SumOK.of ⟨(Yb2 (d:=.loop (loopOf 10 Tryz.f67)) (by kernel_rfl) Z7z),trivial⟩) (by kernel_rfl) Zhe Zl0 rfl (by decide) (by decide) rfl (by decide) rfl Z31 (fun x=>by kernel_rfl)
abbrev Zf7:Shape:={ sl:=[(0,(.ptr 0 [])),(4,(.ptr 1 [])),(6,(.hole (.int .i64))),(28,(.hole (.slice y2))),(29,(.hole (.int .i64))),(30,(.hole (.int .i64)))],bl:=bl_15,ts:=[(.int .i64),(.slice y2),(.int .i64),(.int .i64),y39,y4,y4,y18,y41,y19,y26,y27],pin:=1 }
abbrev Ze8:List (ETag × Shape):=[(.exit 1,{ sl:=[(0,(.ptr 0 [])),(4,(.ptr 1 []))],bl:=bl_15,ts:=[y39,y4,y4,y18,y41,y19,y26,y27],pin:=1 })]
def Z7w (x:(Int × List T0 × Int × Int × T47 × (Int × Int) × (Int × Int) × List (T17) × List T43 × List (T18) × List T29 × List (T20))):Option ((Int × List T0 × Int × Int × T47 × (Int × Int) × (Int × Int) × List (T17) × List T43 × List (T18) × List T29 × List (T20)) ⊕ (T47 × (Int × Int) × (Int × Int) × List (T17) × List T43 × List (T18) × List T29 × List (T20))) :=
 bif (decide (x.2.2.2.1 < x.2.2.1)) then
 bif (inb x.2.2.2.1 (List.length x.2.1)) then
 (Z2g ((x.2.2.2.2.2.2.1.1,x.2.2.2.1,x.1),(getAt (false,(0:Int)) x.2.1 (toN x.2.2.2.1)).2,(getAt (false,(0:Int)) x.2.1 (toN x.2.2.2.1)).1,x.2.2.2.2.1,x.2.2.2.2.2.1,x.2.2.2.2.2.2.2.1,x.2.2.2.2.2.2.2.2.1,x.2.2.2.2.2.2.2.2.2.1,x.2.2.2.2.2.2.2.2.2.2.1,x.2.2.2.2.2.2.2.2.2.2.2)).bind fun r16 =>
 some (.inl (x.1,x.2.1,x.2.2.1,(IntKind.wrap .i64 (x.2.2.2.1+(1:Int))),r16.2.1,r16.2.2.1,x.2.2.2.2.2.2.1,r16.2.2.2.1,r16.2.2.2.2.1,r16.2.2.2.2.2.1,r16.2.2.2.2.2.2.1,r16.2.2.2.2.2.2.2))
 else
 none
 else
 some (.inr (x.2.2.2.2.1,x.2.2.2.2.2.1,x.2.2.2.2.2.2.1,x.2.2.2.2.2.2.2.1,x.2.2.2.2.2.2.2.2.1,x.2.2.2.2.2.2.2.2.2.1,x.2.2.2.2.2.2.2.2.2.2.1,x.2.2.2.2.2.2.2.2.2.2.2))
def Zaz:Ctx:={ tb:=mkTb T2.tbl,fx:=[(40,[],Zoo),(121,[],Zoe),(120,[],Zo5),(124,[],Zoc)],sum:=[],nt:=87,pin:=1,nr:=true,ys:=[] }
theorem Z7x:CSound Tryz.prog ⟨87,1,true⟩ (.loop (loopOf 5 Tryz.f68)) (Yb0 Zf7 Ze8 (loop Z7w)) :=
 Y8i (C:=Zaz) (ctxOK mixed tbl_ok rfl ⟨Z36,Z2l,Z23,Z2h,trivial⟩ trivial) (SumOK.of trivial) Zf7 Ze8 rfl rfl Z7w (fun x=>by kernel_rfl)
abbrev Zh9:Shape:={ sl:=sl_26,bl:=bl_2,ts:=ts_14,pin:=0 }
abbrev Zkv:Shape:={ sl:=[],bl:=bl_2,ts:=ts_11,pin:=1 }
def Z2q (x:T60):Option T57 :=
 (Z35 (x.1.1,(8:Int),x.2.1.2.1,(0:Int),(Int.negSucc 0),x.2.2.1,x.2.2.2.1,x.2.2.2.2.1,x.2.2.2.2.2.1,x.2.2.2.2.2.2.1,x.2.2.2.2.2.2.2.1,x.2.2.2.2.2.2.2.2)).bind fun r14 =>
 bif (inb x.2.1.2.1 (List.length r14.2.1.2.2.2.2.1)) then
 bif (x.1.2 != (Int.negSucc 0)) then
 bif (inb x.1.2 (List.length (getAt (([]:List T0),false) r14.2.1.2.2.2.2.1 (toN x.2.1.2.1)).1)) then
 (Z2k ((x.1.1,x.1.2,r14.1),(getAt (false,(0:Int)) (getAt (([]:List T0),false) r14.2.1.2.2.2.2.1 (toN x.2.1.2.1)).1 (toN x.1.2)).2,(getAt (false,(0:Int)) (getAt (([]:List T0),false) r14.2.1.2.2.2.2.1 (toN x.2.1.2.1)).1 (toN x.1.2)).1,r14.2.1,r14.2.2.1,r14.2.2.2.1,r14.2.2.2.2.1,r14.2.2.2.2.2.1,r14.2.2.2.2.2.2.1,r14.2.2.2.2.2.2.2)).bind fun r15 =>
 some (r15.1,r15.2.1,r15.2.2.1,r15.2.2.2.1,r15.2.2.2.2.1,r15.2.2.2.2.2.1,r15.2.2.2.2.2.2)
 else
 none
 else
 bif (getAt (([]:List T0),false) r14.2.1.2.2.2.2.1 (toN x.2.1.2.1)).2 then
 (Z35 (x.1.1,(9:Int),x.2.1.2.1,(0:Int),r14.1,r14.2.1,r14.2.2.1,r14.2.2.2.1,r14.2.2.2.2.1,r14.2.2.2.2.2.1,r14.2.2.2.2.2.2.1,r14.2.2.2.2.2.2.2)).bind fun r15 =>
 (Z22 (x.1.1,r15.2.1,r15.2.2.1,r15.2.2.2.1,r15.2.2.2.2.1,r15.2.2.2.2.2.1,r15.2.2.2.2.2.2.1,r15.2.2.2.2.2.2.2)).bind fun r16 =>
 some (r16.1,r16.2.1,r16.2.2.1,r16.2.2.2.1,r16.2.2.2.2.1,r16.2.2.2.2.2.1,r16.2.2.2.2.2.2)
 else
 (loop Z7w (r14.1,(getAt (([]:List T0),false) r14.2.1.2.2.2.2.1 (toN x.2.1.2.1)).1,(((List.length (getAt (([]:List T0),false) r14.2.1.2.2.2.2.1 (toN x.2.1.2.1)).1):Nat):Int),(0:Int),r14.2.1,r14.2.2.1,x.1,r14.2.2.2.1,r14.2.2.2.2.1,r14.2.2.2.2.2.1,r14.2.2.2.2.2.2.1,r14.2.2.2.2.2.2.2)).bind fun r15 =>
 (Z39 (r15.2.2.1.1,r15.1,r15.2.1,r15.2.2.2.1,r15.2.2.2.2.1,r15.2.2.2.2.2.1,r15.2.2.2.2.2.2.1,r15.2.2.2.2.2.2.2)).bind fun r16 =>
 some (r16.1,r16.2.1,r16.2.2.1,r16.2.2.2.1,r16.2.2.2.2.1,r16.2.2.2.2.2.1,r16.2.2.2.2.2.2)
 else
 none
abbrev Zoh:=Spec.shp Zh9 Zkv Z2q
def Zay:Ctx:={ tb:=mkTb T2.tbl,fx:=[(40,[],Zoo),(121,[],Zoe),(120,[],Zo5),(124,[],Zoc),(125,[],Zoq)],sum:=[(0,5,Yb0 Zf7 Ze8 (loop Z7w))],nt:=87,pin:=1,nr:=true,ys:=[] }
theorem Z2r:Sound Tryz.prog 68 (Zoh) :=
 Sound.shp (C:=Zay) (fn:=Tryz.f68) (by kernel_rfl) (c:=bodyOf Tryz.f68) (by kernel_rfl) (by decide) (ctxOK mixed tbl_ok rfl ⟨Z36,Z2l,Z23,Z2h,Z3a,trivial⟩ trivial) (SumOK.of ⟨(Yb2 (d:=.loop (loopOf 5 Tryz.f68)) (by kernel_rfl) Z7x),trivial⟩) (by kernel_rfl) Zh9 Zkv rfl (by decide) (by decide) rfl (by decide) rfl Z2q (fun x=>by kernel_rfl)
abbrev Zgg:Shape:={ sl:=[(0,(.hole (.one (.slice y5))))],bl:=[],ts:=[(.one (.slice y5))],pin:=0 }
abbrev Zk2:Shape:={ sl:=[(0,(.hole y15))],bl:=[],ts:=[y15],pin:=0 }
def Z14 (x:(List (T7))):Option (T18) :=
 some (true,x)
abbrev Zno:=Spec.shp Zgg Zk2 Z14
def Z9x:Ctx:={ tb:=mkTb T2.tbl,fx:=[],sum:=[],nt:=6,pin:=0,nr:=true,ys:=[] }
theorem Z15:Sound Tryz.prog 172 (Zno) :=
 Sound.shp (C:=Z9x) (fn:=Tryz.f172) (by kernel_rfl) (c:=bodyOf Tryz.f172) (by kernel_rfl) (by decide) (ctxOK mixed tbl_ok rfl trivial trivial) (SumOK.of trivial) (by kernel_rfl) Zgg Zk2 rfl (by decide) (by decide) rfl (by decide) rfl Z14 (fun x=>by kernel_rfl)
abbrev Zgf:Shape:={ sl:=[(0,(.hole y15)),(1,(.hole y5))],bl:=[],ts:=[y15,y5],pin:=0 }
abbrev Zk1:Shape:={ sl:=[(0,(.hole y15)),(1,(.hole .bool)),(2,(.hole (.int .i64)))],bl:=[],ts:=[y15,.bool,(.int .i64)],pin:=0 }
def Z12 (x:(T18 × T7)):Option (T18 × Bool × Int) :=
 (Z74 (x.1.2,x.2)).bind fun r16 =>
 (Z10 x.1).bind fun r17 =>
 bif (Bool.not r17) then
 some ((false,([]:List T7)),false,(1:Int))
 else
 bif (r16.2 == (1:Int)) then
 some ((false,([]:List T7)),false,(1:Int))
 else
 bif (Bool.not x.1.1) then
 (Z14 ([]:List T7)).bind fun r18 =>
 some (r18,true,(0:Int))
 else
 bif (r16.2 != (0:Int)) then
 some ((false,([]:List T7)),false,r16.2)
 else
 (Z14 r16.1).bind fun r18 =>
 some (r18,false,(0:Int))
abbrev Znn:=Spec.shp Zgf Zk1 Z12
def Z9w:Ctx:={ tb:=mkTb T2.tbl,fx:=[(171,[],Zql),(117,[],Znm),(172,[],Zno)],sum:=[],nt:=39,pin:=0,nr:=true,ys:=[] }
theorem Z13:Sound Tryz.prog 126 (Znn) :=
 Sound.shp (C:=Z9w) (fn:=Tryz.f126) (by kernel_rfl) (c:=bodyOf Tryz.f126) (by kernel_rfl) (by decide) (ctxOK mixed tbl_ok rfl ⟨Z75,Z11,Z15,trivial⟩ trivial) (SumOK.of trivial) (by kernel_rfl) Zgf Zk1 rfl (by decide) (by decide) rfl (by decide) rfl Z12 (fun x=>by kernel_rfl)
abbrev Zh2:Shape:={ sl:=[(0,(.ptr 0 [])),(1,(.hole (.int .i64))),(2,(.hole (.int .i64))),(3,(.hole (.int .i64)))],bl:=bl_2,ts:=[(.int .i64),(.int .i64),(.int .i64),y39,y4,y18,y41,y19,y26,y27],pin:=0 }
abbrev Zko:Shape:={ sl:=[],bl:=bl_2,ts:=ts_11,pin:=1 }
def Z2c (x:(Int × Int × Int × T47 × (Int × Int) × List (T17) × List T43 × List (T18) × List T29 × List (T20))):Option T57 :=
 (Z35 (x.1,(11:Int),x.2.1,(0:Int),x.2.2.1,x.2.2.2.1,x.2.2.2.2.1,x.2.2.2.2.2.1,x.2.2.2.2.2.2.1,x.2.2.2.2.2.2.2.1,x.2.2.2.2.2.2.2.2.1,x.2.2.2.2.2.2.2.2.2)).bind fun r17 =>
 (Z22 (x.1,r17.2.1,r17.2.2.1,r17.2.2.2.1,r17.2.2.2.2.1,r17.2.2.2.2.2.1,r17.2.2.2.2.2.2.1,r17.2.2.2.2.2.2.2)).bind fun r18 =>
 some (r18.1,r18.2.1,r18.2.2.1,r18.2.2.2.1,r18.2.2.2.2.1,r18.2.2.2.2.2.1,r18.2.2.2.2.2.2)
abbrev Zoa:=Spec.shp Zh2 Zko Z2c
def Zar:Ctx:={ tb:=mkTb T2.tbl,fx:=[(40,[],Zoo),(120,[],Zo5)],sum:=[],nt:=16,pin:=1,nr:=true,ys:=[] }
theorem Z2d:Sound Tryz.prog 127 (Zoa) :=
 Sound.shp (C:=Zar) (fn:=Tryz.f127) (by kernel_rfl) (c:=bodyOf Tryz.f127) (by kernel_rfl) (by decide) (ctxOK mixed tbl_ok rfl ⟨Z36,Z23,trivial⟩ trivial) (SumOK.of trivial) (by kernel_rfl) Zh2 Zko rfl (by decide) (by decide) rfl (by decide) rfl Z2c (fun x=>by kernel_rfl)
abbrev Zh1:Shape:={ sl:=sl_26,bl:=bl_2,ts:=ts_14,pin:=0 }
abbrev Zkn:Shape:={ sl:=[],bl:=bl_2,ts:=ts_11,pin:=1 }
def Z2a (x:T60):Option T57 :=
 (Z35 (x.1.1,(10:Int),x.2.1.2.1,(0:Int),(Int.negSucc 0),x.2.2.1,x.2.2.2.1,x.2.2.2.2.1,x.2.2.2.2.2.1,x.2.2.2.2.2.2.1,x.2.2.2.2.2.2.2.1,x.2.2.2.2.2.2.2.2)).bind fun r14 =>
 bif (inb x.2.1.2.1 (List.length r14.2.2.2.2.2.1)) then
 (Z12 ((getAt (false,([]:List T7)) r14.2.2.2.2.2.1 (toN x.2.1.2.1)),x.1.1,(0:Int),r14.1)).bind fun r15 =>
 bif (inb x.2.1.2.1 (List.length r14.2.2.2.2.2.1)) then
 bif (Bool.not r15.2.1) then
 (Z39 (x.1.1,r14.2.1,r14.2.2.1,r14.2.2.2.1,r14.2.2.2.2.1,(List.set r14.2.2.2.2.2.1 (toN x.2.1.2.1) r15.1),r14.2.2.2.2.2.2.1,r14.2.2.2.2.2.2.2)).bind fun r16 =>
 some (r16.1,r16.2.1,r16.2.2.1,r16.2.2.2.1,r16.2.2.2.2.1,r16.2.2.2.2.2.1,r16.2.2.2.2.2.2)
 else
 (Z2c (x.1.1,x.2.1.2.1,r14.1,r14.2.1,r14.2.2.1,r14.2.2.2.1,r14.2.2.2.2.1,(List.set r14.2.2.2.2.2.1 (toN x.2.1.2.1) r15.1),r14.2.2.2.2.2.2.1,r14.2.2.2.2.2.2.2)).bind fun r16 =>
 some (r16.1,r16.2.1,r16.2.2.1,r16.2.2.2.1,r16.2.2.2.2.1,r16.2.2.2.2.2.1,r16.2.2.2.2.2.2)
 else
 none
 else
 none
abbrev Zo9:=Spec.shp Zh1 Zkn Z2a
def Zaq:Ctx:={ tb:=mkTb T2.tbl,fx:=[(40,[],Zoo),(126,[],Znn),(125,[],Zoq),(127,[],Zoa)],sum:=[],nt:=56,pin:=1,nr:=true,ys:=[] }
theorem Z2b:Sound Tryz.prog 69 (Zo9) :=
 Sound.shp (C:=Zaq) (fn:=Tryz.f69) (by kernel_rfl) (c:=bodyOf Tryz.f69) (by kernel_rfl) (by decide) (ctxOK mixed tbl_ok rfl ⟨Z36,Z13,Z3a,Z2d,trivial⟩ trivial) (SumOK.of trivial) (by kernel_rfl) Zh1 Zkn rfl (by decide) (by decide) rfl (by decide) rfl Z2a (fun x=>by kernel_rfl)
abbrev Zgd:Shape:={ sl:=[(0,(.hole y15))],bl:=[],ts:=[y15],pin:=0 }
abbrev Zjz:Shape:={ sl:=[(0,(.hole y15)),(1,(.hole y5)),(2,(.hole .bool)),(3,(.hole (.int .i64)))],bl:=[],ts:=[y15,y5,.bool,(.int .i64)],pin:=0 }
def Zy (x:(T18)):Option (T18 × T7 × Bool × Int) :=
 (Z10 x).bind fun r15 =>
 bif (Bool.not r15) then
 some ((false,([]:List T7)),((0:Int),(0:Int),(0:Int)),false,(1:Int))
 else
 bif (Bool.not x.1) then
 some ((false,([]:List T7)),((0:Int),(0:Int),(0:Int)),false,(6:Int))
 else
 bif ((((List.length x.2):Nat):Int) == (0:Int)) then
 some ((false,([]:List T7)),((0:Int),(0:Int),(0:Int)),false,(0:Int))
 else
 bif (sub3 (1:Int) (((List.length x.2):Nat):Int) (List.length x.2)) then
 (Z14 (cut x.2 (toN (1:Int)) ((toN (((List.length x.2):Nat):Int)) - (toN (1:Int))))).bind fun r16 =>
 bif (inb (0:Int) (List.length x.2)) then
 some (r16,(getAt ((0:Int),(0:Int),(0:Int)) x.2 (toN (0:Int))),true,(0:Int))
 else
 none
 else
 none
abbrev Znl:=Spec.shp Zgd Zjz Zy
def Z9u:Ctx:={ tb:=mkTb T2.tbl,fx:=[(117,[],Znm),(172,[],Zno)],sum:=[],nt:=34,pin:=0,nr:=true,ys:=[] }
theorem Zz:Sound Tryz.prog 128 (Znl) :=
 Sound.shp (C:=Z9u) (fn:=Tryz.f128) (by kernel_rfl) (c:=bodyOf Tryz.f128) (by kernel_rfl) (by decide) (ctxOK mixed tbl_ok rfl ⟨Z11,Z15,trivial⟩ trivial) (SumOK.of trivial) (by kernel_rfl) Zgd Zjz rfl (by decide) (by decide) rfl (by decide) rfl Zy (fun x=>by kernel_rfl)
abbrev Zhh:Shape:={ sl:=sl_26,bl:=bl_2,ts:=ts_14,pin:=0 }
abbrev Zl3:Shape:={ sl:=[],bl:=bl_2,ts:=ts_11,pin:=1 }
def Z37 (x:T60):Option T57 :=
 bif (inb x.2.1.2.1 (List.length x.2.2.2.2.2.2.1)) then
 (Zy (getAt (false,([]:List T7)) x.2.2.2.2.2.2.1 (toN x.2.1.2.1))).bind fun r14 =>
 bif (r14.2.2.2 != (0:Int)) then
 some (x.2.2.1,(x.2.2.2.1.1,(3:Int)),x.2.2.2.2.1,x.2.2.2.2.2.1,x.2.2.2.2.2.2.1,x.2.2.2.2.2.2.2.1,x.2.2.2.2.2.2.2.2)
 else
 bif (inb x.2.1.2.1 (List.length x.2.2.2.2.2.2.1)) then
 (Z35 (x.1.1,(12:Int),x.2.1.2.1,(0:Int),(Int.negSucc 0),x.2.2.1,x.2.2.2.1,x.2.2.2.2.1,x.2.2.2.2.2.1,(List.set x.2.2.2.2.2.2.1 (toN x.2.1.2.1) r14.1),x.2.2.2.2.2.2.2.1,x.2.2.2.2.2.2.2.2)).bind fun r15 =>
 (Z22 (x.1.1,r15.2.1,r15.2.2.1,r15.2.2.2.1,r15.2.2.2.2.1,r15.2.2.2.2.2.1,r15.2.2.2.2.2.2.1,r15.2.2.2.2.2.2.2)).bind fun r16 =>
 bif r14.2.2.1 then
 (Z2c (r14.2.1.1,x.2.1.2.1,r14.2.1.2.2,r16.1,r16.2.1,r16.2.2.1,r16.2.2.2.1,r16.2.2.2.2.1,r16.2.2.2.2.2.1,r16.2.2.2.2.2.2)).bind fun r17 =>
 some (r17.1,r17.2.1,r17.2.2.1,r17.2.2.2.1,r17.2.2.2.2.1,r17.2.2.2.2.2.1,r17.2.2.2.2.2.2)
 else
 some (r16.1,r16.2.1,r16.2.2.1,r16.2.2.2.1,r16.2.2.2.2.1,r16.2.2.2.2.2.1,r16.2.2.2.2.2.2)
 else
 none
 else
 none
abbrev Zop:=Spec.shp Zhh Zl3 Z37
def Zb8:Ctx:={ tb:=mkTb T2.tbl,fx:=[(128,[],Znl),(40,[],Zoo),(120,[],Zo5),(127,[],Zoa)],sum:=[],nt:=59,pin:=1,nr:=true,ys:=[] }
theorem Z38:Sound Tryz.prog 70 (Zop) :=
 Sound.shp (C:=Zb8) (fn:=Tryz.f70) (by kernel_rfl) (c:=bodyOf Tryz.f70) (by kernel_rfl) (by decide) (ctxOK mixed tbl_ok rfl ⟨Zz,Z36,Z23,Z2d,trivial⟩ trivial) (SumOK.of trivial) (by kernel_rfl) Zhh Zl3 rfl (by decide) (by decide) rfl (by decide) rfl Z37 (fun x=>by kernel_rfl)
abbrev Zho:Shape:={ sl:=sl_30,bl:=[],ts:=[y23,y5],pin:=0 }
abbrev Zla:Shape:={ sl:=sl_31,bl:=[],ts:=ts_15,pin:=0 }
def Z3l (x:T30):Option T34 :=
 some (((1:Int),x.2.1,([]:List T7)),(0:Int),(0:Int))
abbrev Zow:=Spec.shp Zho Zla Z3l
def Zbf:Ctx:={ tb:=mkTb T2.tbl,fx:=[],sum:=[],nt:=10,pin:=0,nr:=true,ys:=[] }
theorem Z3m:Sound Tryz.prog 173 (Zow) :=
 Sound.shp (C:=Zbf) (fn:=Tryz.f173) (by kernel_rfl) (c:=bodyOf Tryz.f173) (by kernel_rfl) (by decide) (ctxOK mixed tbl_ok rfl trivial trivial) (SumOK.of trivial) (by kernel_rfl) Zho Zla rfl (by decide) (by decide) rfl (by decide) rfl Z3l (fun x=>by kernel_rfl)
abbrev Zhq:Shape:={ sl:=sl_30,bl:=[],ts:=[y23,y5],pin:=0 }
abbrev Zlc:Shape:={ sl:=sl_31,bl:=[],ts:=ts_15,pin:=0 }
def Z3p (x:T30):Option T34 :=
 bif (x.1.2.1 == x.2.1) then
 some (((0:Int),(0:Int),([]:List T7)),(0:Int),(6:Int))
 else
 (Z74 (x.1.2.2,x.2)).bind fun r18 =>
 bif (r18.2 != (0:Int)) then
 some (((0:Int),(0:Int),([]:List T7)),(0:Int),r18.2)
 else
 some ((x.1.1,x.1.2.1,r18.1),(1:Int),(0:Int))
abbrev Zoy:=Spec.shp Zhq Zlc Z3p
def Zbh:Ctx:={ tb:=mkTb T2.tbl,fx:=[(171,[],Zql)],sum:=[],nt:=29,pin:=0,nr:=true,ys:=[] }
theorem Z3q:Sound Tryz.prog 174 (Zoy) :=
 Sound.shp (C:=Zbh) (fn:=Tryz.f174) (by kernel_rfl) (c:=bodyOf Tryz.f174) (by kernel_rfl) (by decide) (ctxOK mixed tbl_ok rfl ⟨Z75,trivial⟩ trivial) (SumOK.of trivial) (by kernel_rfl) Zhq Zlc rfl (by decide) (by decide) rfl (by decide) rfl Z3p (fun x=>by kernel_rfl)
abbrev Zhp:Shape:={ sl:=sl_30,bl:=[],ts:=[y23,y5],pin:=0 }
abbrev Zlb:Shape:={ sl:=sl_31,bl:=[],ts:=ts_15,pin:=0 }
def Z3n (x:T30):Option T34 :=
 some (x.1,(2:Int),(0:Int))
abbrev Zox:=Spec.shp Zhp Zlb Z3n
def Zbg:Ctx:={ tb:=mkTb T2.tbl,fx:=[],sum:=[],nt:=8,pin:=0,nr:=true,ys:=[] }
theorem Z3o:Sound Tryz.prog 175 (Zox) :=
 Sound.shp (C:=Zbg) (fn:=Tryz.f175) (by kernel_rfl) (c:=bodyOf Tryz.f175) (by kernel_rfl) (by decide) (ctxOK mixed tbl_ok rfl trivial trivial) (SumOK.of trivial) (by kernel_rfl) Zhp Zlb rfl (by decide) (by decide) rfl (by decide) rfl Z3n (fun x=>by kernel_rfl)
abbrev Zhl:Shape:={ sl:=sl_30,bl:=[],ts:=[y23,y5],pin:=0 }
abbrev Zl7:Shape:={ sl:=sl_31,bl:=[],ts:=ts_15,pin:=0 }
def Z3f (x:T30):Option T34 :=
 (Z3j x.1).bind fun r16 =>
 bif (Bool.not r16) then
 some (((0:Int),(0:Int),([]:List T7)),(0:Int),(1:Int))
 else
 bif (decide (x.2.1 < (0:Int))) then
 some (((0:Int),(0:Int),([]:List T7)),(0:Int),(1:Int))
 else
 bif (decide (x.2.2.1 < (0:Int))) then
 some (((0:Int),(0:Int),([]:List T7)),(0:Int),(1:Int))
 else
 bif (decide (x.2.2.2 < (0:Int))) then
 some (((0:Int),(0:Int),([]:List T7)),(0:Int),(1:Int))
 else
 bif (x.1.1 == (((0:Nat):Nat):Int)) then
 (Z3l (x.1,x.2)).bind fun r17 =>
 some (r17.1,r17.2.1,r17.2.2)
 else
 bif (x.1.1 == ((((0:Nat)+(1:Nat)):Nat):Int)) then
 (Z3p (x.1,x.2)).bind fun r17 =>
 some (r17.1,r17.2.1,r17.2.2)
 else
 bif (x.1.1 == (((((0:Nat)+(1:Nat))+(1:Nat)):Nat):Int)) then
 (Z3n (x.1,x.2)).bind fun r17 =>
 some (r17.1,r17.2.1,r17.2.2)
 else
 none
abbrev Zot:=Spec.shp Zhl Zl7 Z3f
def Zbc:Ctx:={ tb:=mkTb T2.tbl,fx:=[(118,[],Zov),(173,[],Zow),(174,[],Zoy),(175,[],Zox)],sum:=[],nt:=42,pin:=0,nr:=true,ys:=[] }
theorem Z3g:Sound Tryz.prog 129 (Zot) :=
 Sound.shp (C:=Zbc) (fn:=Tryz.f129) (by kernel_rfl) (c:=bodyOf Tryz.f129) (by kernel_rfl) (by decide) (ctxOK mixed tbl_ok rfl ⟨Z3k,Z3m,Z3q,Z3o,trivial⟩ trivial) (SumOK.of trivial) (by kernel_rfl) Zhl Zl7 rfl (by decide) (by decide) rfl (by decide) rfl Z3f (fun x=>by kernel_rfl)
abbrev Zhf:Shape:={ sl:=sl_14,bl:=bl_2,ts:=[(.int .i64),(.int .i64),y39,y4,y18,y41,y19,y26,y27],pin:=0 }
abbrev Zl1:Shape:={ sl:=[],bl:=bl_2,ts:=ts_11,pin:=1 }
def Z33 (x:(Int × Int × T47 × (Int × Int) × List (T17) × List T43 × List (T18) × List T29 × List (T20))):Option T57 :=
 (Z26 (x.1,x.2.2.1,x.2.2.2.1,x.2.2.2.2.1,x.2.2.2.2.2.1,x.2.2.2.2.2.2.1,x.2.2.2.2.2.2.2.1,x.2.2.2.2.2.2.2.2)).bind fun r17 =>
 (Z35 (x.1,(15:Int),r17.1.2.1,(0:Int),x.2.1,r17.2.1,r17.2.2.1,r17.2.2.2.1,r17.2.2.2.2.1,r17.2.2.2.2.2.1,r17.2.2.2.2.2.2.1,r17.2.2.2.2.2.2.2)).bind fun r18 =>
 (Z24 (x.1,r17.1.2.2,r18.2.1,r18.2.2.1,r18.2.2.2.1,r18.2.2.2.2.1,r18.2.2.2.2.2.1,r18.2.2.2.2.2.2.1,r18.2.2.2.2.2.2.2)).bind fun r19 =>
 some (r19.1,r19.2.1,r19.2.2.1,r19.2.2.2.1,r19.2.2.2.2.1,r19.2.2.2.2.2.1,r19.2.2.2.2.2.2)
abbrev Zon:=Spec.shp Zhf Zl1 Z33
def Zb6:Ctx:={ tb:=mkTb T2.tbl,fx:=[(78,[],Zo7),(40,[],Zoo),(41,[],Zo6)],sum:=[],nt:=21,pin:=1,nr:=true,ys:=[] }
theorem Z34:Sound Tryz.prog 130 (Zon) :=
 Sound.shp (C:=Zb6) (fn:=Tryz.f130) (by kernel_rfl) (c:=bodyOf Tryz.f130) (by kernel_rfl) (by decide) (ctxOK mixed tbl_ok rfl ⟨Z27,Z36,Z25,trivial⟩ trivial) (SumOK.of trivial) (by kernel_rfl) Zhf Zl1 rfl (by decide) (by decide) rfl (by decide) rfl Z33 (fun x=>by kernel_rfl)
abbrev Zgu:Shape:={ sl:=sl_26,bl:=bl_2,ts:=ts_14,pin:=0 }
abbrev Zkg:Shape:={ sl:=[],bl:=bl_2,ts:=ts_11,pin:=1 }
def Z1w (x:T60):Option T57 :=
 (Z35 (x.1.1,(13:Int),x.2.1.2.1,(0:Int),(Int.negSucc 0),x.2.2.1,x.2.2.2.1,x.2.2.2.2.1,x.2.2.2.2.2.1,x.2.2.2.2.2.2.1,x.2.2.2.2.2.2.2.1,x.2.2.2.2.2.2.2.2)).bind fun r14 =>
 bif (inb x.2.1.2.1 (List.length r14.2.2.2.2.2.2.1)) then
 (Z3f ((getAt ((0:Int),(0:Int),([]:List T7)) r14.2.2.2.2.2.2.1 (toN x.2.1.2.1)),x.1.1,(0:Int),r14.1)).bind fun r15 =>
 bif (r15.2.2 != (0:Int)) then
 (Z39 (x.1.1,r14.2.1,r14.2.2.1,r14.2.2.2.1,r14.2.2.2.2.1,r14.2.2.2.2.2.1,r14.2.2.2.2.2.2.1,r14.2.2.2.2.2.2.2)).bind fun r16 =>
 some (r16.1,r16.2.1,r16.2.2.1,r16.2.2.2.1,r16.2.2.2.2.1,r16.2.2.2.2.2.1,r16.2.2.2.2.2.2)
 else
 bif (inb x.2.1.2.1 (List.length r14.2.2.2.2.2.2.1)) then
 bif (r15.2.1 == (0:Int)) then
 (Z22 (x.1.1,r14.2.1,r14.2.2.1,r14.2.2.2.1,r14.2.2.2.2.1,r14.2.2.2.2.2.1,(List.set r14.2.2.2.2.2.2.1 (toN x.2.1.2.1) r15.1),r14.2.2.2.2.2.2.2)).bind fun r16 =>
 some (r16.1,r16.2.1,r16.2.2.1,r16.2.2.2.1,r16.2.2.2.2.1,r16.2.2.2.2.2.1,r16.2.2.2.2.2.2)
 else
 bif (r15.2.1 == (1:Int)) then
 (Z39 (x.1.1,r14.2.1,r14.2.2.1,r14.2.2.2.1,r14.2.2.2.2.1,r14.2.2.2.2.2.1,(List.set r14.2.2.2.2.2.2.1 (toN x.2.1.2.1) r15.1),r14.2.2.2.2.2.2.2)).bind fun r16 =>
 some (r16.1,r16.2.1,r16.2.2.1,r16.2.2.2.1,r16.2.2.2.2.1,r16.2.2.2.2.2.1,r16.2.2.2.2.2.2)
 else
 (Z33 (x.1.1,r14.1,r14.2.1,r14.2.2.1,r14.2.2.2.1,r14.2.2.2.2.1,r14.2.2.2.2.2.1,(List.set r14.2.2.2.2.2.2.1 (toN x.2.1.2.1) r15.1),r14.2.2.2.2.2.2.2)).bind fun r16 =>
 some (r16.1,r16.2.1,r16.2.2.1,r16.2.2.2.1,r16.2.2.2.2.1,r16.2.2.2.2.2.1,r16.2.2.2.2.2.2)
 else
 none
 else
 none
abbrev Zo2:=Spec.shp Zgu Zkg Z1w
def Zah:Ctx:={ tb:=mkTb T2.tbl,fx:=[(40,[],Zoo),(129,[],Zot),(125,[],Zoq),(120,[],Zo5),(130,[],Zon)],sum:=[],nt:=67,pin:=1,nr:=true,ys:=[] }
theorem Z1x:Sound Tryz.prog 71 (Zo2) :=
 Sound.shp (C:=Zah) (fn:=Tryz.f71) (by kernel_rfl) (c:=bodyOf Tryz.f71) (by kernel_rfl) (by decide) (ctxOK mixed tbl_ok rfl ⟨Z36,Z3g,Z3a,Z23,Z34,trivial⟩ trivial) (SumOK.of trivial) (by kernel_rfl) Zgu Zkg rfl (by decide) (by decide) rfl (by decide) rfl Z1w (fun x=>by kernel_rfl)
abbrev Zhm:Shape:={ sl:=[(0,(.hole y23)),(1,(.hole (.int .i64)))],bl:=[],ts:=[y23,(.int .i64)],pin:=0 }
abbrev Zl8:Shape:={ sl:=[(0,(.hole y23)),(1,(.hole (.slice y5))),(2,(.hole (.int .i64)))],bl:=[],ts:=[y23,(.slice y5),(.int .i64)],pin:=0 }
def Z3h (x:((Int × T13) × Int)):Option ((Int × T13) × List (T7) × Int) :=
 (Z3j x.1).bind fun r15 =>
 bif (Bool.not r15) then
 some (((0:Int),(0:Int),([]:List T7)),([]:List T7),(1:Int))
 else
 bif (decide (x.2 < (0:Int))) then
 some (((0:Int),(0:Int),([]:List T7)),([]:List T7),(1:Int))
 else
 bif (x.1.1 != (1:Int)) then
 some (((0:Int),(0:Int),([]:List T7)),([]:List T7),(6:Int))
 else
 bif (x.1.2.1 != x.2) then
 some (((0:Int),(0:Int),([]:List T7)),([]:List T7),(6:Int))
 else
 some (((2:Int),(0:Int),([]:List T7)),x.1.2.2,(0:Int))
abbrev Zou:=Spec.shp Zhm Zl8 Z3h
def Zbd:Ctx:={ tb:=mkTb T2.tbl,fx:=[(118,[],Zov)],sum:=[],nt:=30,pin:=0,nr:=true,ys:=[] }
theorem Z3i:Sound Tryz.prog 131 (Zou) :=
 Sound.shp (C:=Zbd) (fn:=Tryz.f131) (by kernel_rfl) (c:=bodyOf Tryz.f131) (by kernel_rfl) (by decide) (ctxOK mixed tbl_ok rfl ⟨Z3k,trivial⟩ trivial) (SumOK.of trivial) (by kernel_rfl) Zhm Zl8 rfl (by decide) (by decide) rfl (by decide) rfl Z3h (fun x=>by kernel_rfl)
abbrev Zf6:Shape:={ sl:=[(0,(.ptr 0 [])),(52,(.hole (.slice y5))),(53,(.hole (.int .i64))),(54,(.hole (.int .i64)))],bl:=bl_2,ts:=[(.slice y5),(.int .i64),(.int .i64),y39,y4,y18,y41,y19,y26,y27],pin:=1 }
abbrev Ze7:List (ETag × Shape):=[(.exit 0,{ sl:=[],bl:=bl_2,ts:=ts_11,pin:=1 })]
def Z7u (x:(List (T7) × Int × Int × T47 × (Int × Int) × List (T17) × List T43 × List (T18) × List T29 × List (T20))):Option ((List (T7) × Int × Int × T47 × (Int × Int) × List (T17) × List T43 × List (T18) × List T29 × List (T20)) ⊕ (T57)) :=
 bif (decide (x.2.2.1 < x.2.1)) then
 bif (inb x.2.2.1 (List.length x.1)) then
 (Z33 ((getAt ((0:Int),(0:Int),(0:Int)) x.1 (toN x.2.2.1)).1,(getAt ((0:Int),(0:Int),(0:Int)) x.1 (toN x.2.2.1)).2.2,x.2.2.2.1,x.2.2.2.2.1,x.2.2.2.2.2.1,x.2.2.2.2.2.2.1,x.2.2.2.2.2.2.2.1,x.2.2.2.2.2.2.2.2.1,x.2.2.2.2.2.2.2.2.2)).bind fun r18 =>
 some (.inl (x.1,x.2.1,(IntKind.wrap .i64 (x.2.2.1+(1:Int))),r18.1,r18.2.1,r18.2.2.1,r18.2.2.2.1,r18.2.2.2.2.1,r18.2.2.2.2.2.1,r18.2.2.2.2.2.2))
 else
 none
 else
 some (.inr (x.2.2.2.1,x.2.2.2.2.1,x.2.2.2.2.2.1,x.2.2.2.2.2.2.1,x.2.2.2.2.2.2.2.1,x.2.2.2.2.2.2.2.2.1,x.2.2.2.2.2.2.2.2.2))
def Zal:Ctx:={ tb:=mkTb T2.tbl,fx:=[(131,[],Zou),(40,[],Zoo),(120,[],Zo5),(130,[],Zon)],sum:=[],nt:=65,pin:=1,nr:=true,ys:=[] }
theorem Z7v:CSound Tryz.prog ⟨65,1,true⟩ (.loop (loopOf 9 Tryz.f72)) (Yb0 Zf6 Ze7 (loop Z7u)) :=
 Y8i (C:=Zal) (ctxOK mixed tbl_ok rfl ⟨Z3i,Z36,Z23,Z34,trivial⟩ trivial) (SumOK.of trivial) Zf6 Ze7 rfl rfl Z7u (fun x=>by kernel_rfl)
abbrev Zgw:Shape:={ sl:=sl_26,bl:=bl_2,ts:=ts_14,pin:=0 }
abbrev Zki:Shape:={ sl:=[],bl:=bl_2,ts:=ts_11,pin:=1 }
def Z20 (x:T60):Option T57 :=
 bif (inb x.2.1.2.1 (List.length x.2.2.2.2.2.2.2.1)) then
 (Z3h ((getAt ((0:Int),(0:Int),([]:List T7)) x.2.2.2.2.2.2.2.1 (toN x.2.1.2.1)),x.1.1)).bind fun r14 =>
 bif (r14.2.2 != (0:Int)) then
 some (x.2.2.1,(x.2.2.2.1.1,(3:Int)),x.2.2.2.2.1,x.2.2.2.2.2.1,x.2.2.2.2.2.2.1,x.2.2.2.2.2.2.2.1,x.2.2.2.2.2.2.2.2)
 else
 bif (inb x.2.1.2.1 (List.length x.2.2.2.2.2.2.2.1)) then
 (Z35 (x.1.1,(14:Int),x.2.1.2.1,(0:Int),(Int.negSucc 0),x.2.2.1,x.2.2.2.1,x.2.2.2.2.1,x.2.2.2.2.2.1,x.2.2.2.2.2.2.1,(List.set x.2.2.2.2.2.2.2.1 (toN x.2.1.2.1) r14.1),x.2.2.2.2.2.2.2.2)).bind fun r15 =>
 (Z22 (x.1.1,r15.2.1,r15.2.2.1,r15.2.2.2.1,r15.2.2.2.2.1,r15.2.2.2.2.2.1,r15.2.2.2.2.2.2.1,r15.2.2.2.2.2.2.2)).bind fun r16 =>
 (loop Z7u (r14.2.1,(((List.length r14.2.1):Nat):Int),(0:Int),r16.1,r16.2.1,r16.2.2.1,r16.2.2.2.1,r16.2.2.2.2.1,r16.2.2.2.2.2.1,r16.2.2.2.2.2.2)).bind fun r17 =>
 some (r17.1,r17.2.1,r17.2.2.1,r17.2.2.2.1,r17.2.2.2.2.1,r17.2.2.2.2.2.1,r17.2.2.2.2.2.2)
 else
 none
 else
 none
abbrev Zo4:=Spec.shp Zgw Zki Z20
def Zak:Ctx:={ tb:=mkTb T2.tbl,fx:=[(131,[],Zou),(40,[],Zoo),(120,[],Zo5),(130,[],Zon)],sum:=[(0,9,Yb0 Zf6 Ze7 (loop Z7u))],nt:=65,pin:=1,nr:=true,ys:=[] }
theorem Z21:Sound Tryz.prog 72 (Zo4) :=
 Sound.shp (C:=Zak) (fn:=Tryz.f72) (by kernel_rfl) (c:=bodyOf Tryz.f72) (by kernel_rfl) (by decide) (ctxOK mixed tbl_ok rfl ⟨Z3i,Z36,Z23,Z34,trivial⟩ trivial) (SumOK.of ⟨(Yb2 (d:=.loop (loopOf 9 Tryz.f72)) (by kernel_rfl) Z7v),trivial⟩) (by kernel_rfl) Zgw Zki rfl (by decide) (by decide) rfl (by decide) rfl Z20 (fun x=>by kernel_rfl)
abbrev Zgt:Shape:={ sl:=sl_26,bl:=bl_2,ts:=ts_14,pin:=0 }
abbrev Zkf:Shape:={ sl:=[],bl:=bl_2,ts:=ts_11,pin:=1 }
def Z1u (x:T60):Option T57 :=
 bif ((((List.length x.2.2.2.2.1):Nat):Int) == (8:Int)) then
 some (x.2.2.1,(x.2.2.2.1.1,(4:Int)),x.2.2.2.2.1,x.2.2.2.2.2.1,x.2.2.2.2.2.2.1,x.2.2.2.2.2.2.2.1,x.2.2.2.2.2.2.2.2)
 else
 (Z35 (x.1.1,(1:Int),(((List.length x.2.2.2.2.1):Nat):Int),(0:Int),(Int.negSucc 0),x.2.2.1,x.2.2.2.1,x.2.2.2.2.1,x.2.2.2.2.2.1,x.2.2.2.2.2.2.1,x.2.2.2.2.2.2.2.1,x.2.2.2.2.2.2.2.2)).bind fun r14 =>
 (Z35 ((((List.length x.2.2.2.2.1):Nat):Int),(0:Int),(0:Int),(0:Int),r14.1,r14.2.1,r14.2.2.1,r14.2.2.2.1,r14.2.2.2.2.1,r14.2.2.2.2.2.1,r14.2.2.2.2.2.2.1,r14.2.2.2.2.2.2.2)).bind fun r15 =>
 bif (fits ((List.length r15.2.2.2.1)+(List.length ((x.2.1.2.1,(0:Int),(0:Int),false) :: ([]:List T17))))) then
 (Z24 ((((List.length x.2.2.2.2.1):Nat):Int),(0:Int),r15.2.1,r15.2.2.1,(r15.2.2.2.1++((x.2.1.2.1,(0:Int),(0:Int),false) :: ([]:List T17))),r15.2.2.2.2.1,r15.2.2.2.2.2.1,r15.2.2.2.2.2.2.1,r15.2.2.2.2.2.2.2)).bind fun r16 =>
 (Z22 (x.1.1,r16.1,r16.2.1,r16.2.2.1,r16.2.2.2.1,r16.2.2.2.2.1,r16.2.2.2.2.2.1,r16.2.2.2.2.2.2)).bind fun r17 =>
 some (r17.1,r17.2.1,r17.2.2.1,r17.2.2.2.1,r17.2.2.2.2.1,r17.2.2.2.2.2.1,r17.2.2.2.2.2.2)
 else
 none
abbrev Zo1:=Spec.shp Zgt Zkf Z1u
def Zag:Ctx:={ tb:=mkTb T2.tbl,fx:=[(40,[],Zoo),(41,[],Zo6),(120,[],Zo5)],sum:=[],nt:=50,pin:=1,nr:=true,ys:=[] }
theorem Z1v:Sound Tryz.prog 73 (Zo1) :=
 Sound.shp (C:=Zag) (fn:=Tryz.f73) (by kernel_rfl) (c:=bodyOf Tryz.f73) (by kernel_rfl) (by decide) (ctxOK mixed tbl_ok rfl ⟨Z36,Z25,Z23,trivial⟩ trivial) (SumOK.of trivial) (by kernel_rfl) Zgt Zkf rfl (by decide) (by decide) rfl (by decide) rfl Z1u (fun x=>by kernel_rfl)
abbrev Zh7:Shape:={ sl:=sl_26,bl:=bl_2,ts:=ts_14,pin:=0 }
abbrev Zkt:Shape:={ sl:=[],bl:=bl_2,ts:=ts_11,pin:=1 }
def Z2m (x:T60):Option T57 :=
 (Z35 (x.1.1,(16:Int),x.2.1.2.1,(0:Int),(Int.negSucc 0),x.2.2.1,x.2.2.2.1,x.2.2.2.2.1,x.2.2.2.2.2.1,x.2.2.2.2.2.2.1,x.2.2.2.2.2.2.2.1,x.2.2.2.2.2.2.2.2)).bind fun r14 =>
 (Z22 (x.1.1,r14.2.1,r14.2.2.1,r14.2.2.2.1,r14.2.2.2.2.1,r14.2.2.2.2.2.1,r14.2.2.2.2.2.2.1,r14.2.2.2.2.2.2.2)).bind fun r15 =>
 some (r15.1,r15.2.1,r15.2.2.1,r15.2.2.2.1,r15.2.2.2.2.1,r15.2.2.2.2.2.1,r15.2.2.2.2.2.2)
abbrev Zof:=Spec.shp Zh7 Zkt Z2m
def Zaw:Ctx:={ tb:=mkTb T2.tbl,fx:=[(40,[],Zoo),(120,[],Zo5)],sum:=[],nt:=16,pin:=1,nr:=true,ys:=[] }
theorem Z2n:Sound Tryz.prog 74 (Zof) :=
 Sound.shp (C:=Zaw) (fn:=Tryz.f74) (by kernel_rfl) (c:=bodyOf Tryz.f74) (by kernel_rfl) (by decide) (ctxOK mixed tbl_ok rfl ⟨Z36,Z23,trivial⟩ trivial) (SumOK.of trivial) (by kernel_rfl) Zh7 Zkt rfl (by decide) (by decide) rfl (by decide) rfl Z2m (fun x=>by kernel_rfl)
abbrev Zhj:Shape:={ sl:=sl_26,bl:=bl_2,ts:=ts_14,pin:=0 }
abbrev Zl5:Shape:={ sl:=[],bl:=bl_2,ts:=ts_11,pin:=1 }
def Z3b (x:T60):Option T57 :=
 (Z35 (x.1.1,(17:Int),x.2.1.2.1,(0:Int),(Int.negSucc 0),x.2.2.1,x.2.2.2.1,x.2.2.2.2.1,x.2.2.2.2.2.1,x.2.2.2.2.2.2.1,x.2.2.2.2.2.2.2.1,x.2.2.2.2.2.2.2.2)).bind fun r14 =>
 (Z22 (x.1.1,r14.2.1,r14.2.2.1,r14.2.2.2.1,r14.2.2.2.2.1,r14.2.2.2.2.2.1,r14.2.2.2.2.2.2.1,r14.2.2.2.2.2.2.2)).bind fun r15 =>
 some (r15.1,r15.2.1,r15.2.2.1,r15.2.2.2.1,r15.2.2.2.2.1,r15.2.2.2.2.2.1,r15.2.2.2.2.2.2)
abbrev Zor:=Spec.shp Zhj Zl5 Z3b
def Zba:Ctx:={ tb:=mkTb T2.tbl,fx:=[(40,[],Zoo),(120,[],Zo5)],sum:=[],nt:=16,pin:=1,nr:=true,ys:=[] }
theorem Z3c:Sound Tryz.prog 75 (Zor) :=
 Sound.shp (C:=Zba) (fn:=Tryz.f75) (by kernel_rfl) (c:=bodyOf Tryz.f75) (by kernel_rfl) (by decide) (ctxOK mixed tbl_ok rfl ⟨Z36,Z23,trivial⟩ trivial) (SumOK.of trivial) (by kernel_rfl) Zhj Zl5 rfl (by decide) (by decide) rfl (by decide) rfl Z3b (fun x=>by kernel_rfl)
abbrev Zh0:Shape:={ sl:=sl_26,bl:=bl_2,ts:=ts_14,pin:=0 }
abbrev Zkm:Shape:={ sl:=[],bl:=bl_2,ts:=ts_11,pin:=1 }
def Z28 (x:T60):Option T57 :=
 (Z24 (x.1.1,x.2.1.2.1,x.2.2.1,x.2.2.2.1,x.2.2.2.2.1,x.2.2.2.2.2.1,x.2.2.2.2.2.2.1,x.2.2.2.2.2.2.2.1,x.2.2.2.2.2.2.2.2)).bind fun r14 =>
 some (r14.1,r14.2.1,r14.2.2.1,r14.2.2.2.1,r14.2.2.2.2.1,r14.2.2.2.2.2.1,r14.2.2.2.2.2.2)
abbrev Zo8:=Spec.shp Zh0 Zkm Z28
def Zap:Ctx:={ tb:=mkTb T2.tbl,fx:=[(41,[],Zo6)],sum:=[],nt:=12,pin:=1,nr:=true,ys:=[] }
theorem Z29:Sound Tryz.prog 76 (Zo8) :=
 Sound.shp (C:=Zap) (fn:=Tryz.f76) (by kernel_rfl) (c:=bodyOf Tryz.f76) (by kernel_rfl) (by decide) (ctxOK mixed tbl_ok rfl ⟨Z25,trivial⟩ trivial) (SumOK.of trivial) (by kernel_rfl) Zh0 Zkm rfl (by decide) (by decide) rfl (by decide) rfl Z28 (fun x=>by kernel_rfl)
abbrev Zh5:Shape:={ sl:=sl_26,bl:=bl_2,ts:=ts_14,pin:=0 }
abbrev Zkr:Shape:={ sl:=[],bl:=bl_2,ts:=ts_11,pin:=1 }
def Z2i (x:T60):Option T57 :=
 bif (inb x.1.1 (List.length x.2.2.2.2.1)) then
 bif (getAt ((0:Int),(0:Int),(0:Int),false) x.2.2.2.2.1 (toN x.1.1)).2.2.2 then
 (Z28 (x.1,x.2.1,x.2.2.1,x.2.2.2.1,x.2.2.2.2.1,x.2.2.2.2.2.1,x.2.2.2.2.2.2.1,x.2.2.2.2.2.2.2.1,x.2.2.2.2.2.2.2.2)).bind fun r14 =>
 some (r14.1,r14.2.1,r14.2.2.1,r14.2.2.2.1,r14.2.2.2.2.1,r14.2.2.2.2.2.1,r14.2.2.2.2.2.2)
 else
 (Z22 (x.1.1,x.2.2.1,x.2.2.2.1,x.2.2.2.2.1,x.2.2.2.2.2.1,x.2.2.2.2.2.2.1,x.2.2.2.2.2.2.2.1,x.2.2.2.2.2.2.2.2)).bind fun r14 =>
 some (r14.1,r14.2.1,r14.2.2.1,r14.2.2.2.1,r14.2.2.2.2.1,r14.2.2.2.2.2.1,r14.2.2.2.2.2.2)
 else
 none
abbrev Zod:=Spec.shp Zh5 Zkr Z2i
def Zau:Ctx:={ tb:=mkTb T2.tbl,fx:=[(76,[],Zo8),(120,[],Zo5)],sum:=[],nt:=24,pin:=1,nr:=true,ys:=[] }
theorem Z2j:Sound Tryz.prog 77 (Zod) :=
 Sound.shp (C:=Zau) (fn:=Tryz.f77) (by kernel_rfl) (c:=bodyOf Tryz.f77) (by kernel_rfl) (by decide) (ctxOK mixed tbl_ok rfl ⟨Z29,Z23,trivial⟩ trivial) (SumOK.of trivial) (by kernel_rfl) Zh5 Zkr rfl (by decide) (by decide) rfl (by decide) rfl Z2i (fun x=>by kernel_rfl)
abbrev Zgj:Shape:={ sl:=[(0,(.hole y45)),(1,(.hole y4))],bl:=[],ts:=[y45,y4],pin:=0 }
abbrev Zk5:Shape:={ sl:=[(0,(.hole y45)),(1,(.hole y27)),(2,(.hole (.int .i64)))],bl:=[],ts:=[y45,y27,(.int .i64)],pin:=0 }
def Z1a (x:((T47 × T61) × (Int × Int))):Option ((T47 × T61) × List (T20) × Int) :=
 (Z16 x.1).bind fun r6 =>
 (Z66 (r6,x.2)).bind fun r7 =>
 bif (Bool.not r7) then
 some (((([]:List Int),(0:Int),(0:Int),(0:Int),([]:List T21),([]:List (List T7))),([]:List T17),([]:List (Int × T41)),([]:List T22),([]:List (Int × T14)),(0:Int),(0:Int)),([]:List T20),(4:Int))
 else
 (Z5i x.1.2.1).bind fun r8 =>
 (Z5g x.1.2.2.1).bind fun r9 =>
 (Z5k x.1.2.2.2.1).bind fun r10 =>
 (Z5m x.1.2.2.2.2.1).bind fun r11 =>
 (Z26 (x.2.1,x.1.1,x.1.2.2.2.2.2,r8,r9,r10,r11,([]:List T20))).bind fun r12 =>
 bif (r12.1.1 == (((0:Nat):Nat):Int)) then
 (Z2e (x.2,r12.1,r12.2.1,r12.2.2.1,r12.2.2.2.1,r12.2.2.2.2.1,r12.2.2.2.2.2.1,r12.2.2.2.2.2.2.1,r12.2.2.2.2.2.2.2)).bind fun r13 =>
 (Z2u (r13.1,r13.2.1,r13.2.2.1,r13.2.2.2.1,r13.2.2.2.2.1,r13.2.2.2.2.2.1,r13.2.2.2.2.2.2)).bind fun r14 =>
 some ((r14.1,r14.2.2.1,r14.2.2.2.1,r14.2.2.2.2.1,r14.2.2.2.2.2.1,r14.2.1),r14.2.2.2.2.2.2,(0:Int))
 else
 bif (r12.1.1 == ((((0:Nat)+(1:Nat)):Nat):Int)) then
 (Z2s (x.2,r12.1,r12.2.1,r12.2.2.1,r12.2.2.2.1,r12.2.2.2.2.1,r12.2.2.2.2.2.1,r12.2.2.2.2.2.2.1,r12.2.2.2.2.2.2.2)).bind fun r13 =>
 (Z2u (r13.1,r13.2.1,r13.2.2.1,r13.2.2.2.1,r13.2.2.2.2.1,r13.2.2.2.2.2.1,r13.2.2.2.2.2.2)).bind fun r14 =>
 some ((r14.1,r14.2.2.1,r14.2.2.2.1,r14.2.2.2.2.1,r14.2.2.2.2.2.1,r14.2.1),r14.2.2.2.2.2.2,(0:Int))
 else
 bif (r12.1.1 == (((((0:Nat)+(1:Nat))+(1:Nat)):Nat):Int)) then
 (Z2o (x.2,r12.1,r12.2.1,r12.2.2.1,r12.2.2.2.1,r12.2.2.2.2.1,r12.2.2.2.2.2.1,r12.2.2.2.2.2.2.1,r12.2.2.2.2.2.2.2)).bind fun r13 =>
 (Z2u (r13.1,r13.2.1,r13.2.2.1,r13.2.2.2.1,r13.2.2.2.2.1,r13.2.2.2.2.2.1,r13.2.2.2.2.2.2)).bind fun r14 =>
 some ((r14.1,r14.2.2.1,r14.2.2.2.1,r14.2.2.2.2.1,r14.2.2.2.2.2.1,r14.2.1),r14.2.2.2.2.2.2,(0:Int))
 else
 bif (r12.1.1 == ((((((0:Nat)+(1:Nat))+(1:Nat))+(1:Nat)):Nat):Int)) then
 (Z31 (x.2,r12.1,r12.2.1,r12.2.2.1,r12.2.2.2.1,r12.2.2.2.2.1,r12.2.2.2.2.2.1,r12.2.2.2.2.2.2.1,r12.2.2.2.2.2.2.2)).bind fun r13 =>
 (Z2u (r13.1,r13.2.1,r13.2.2.1,r13.2.2.2.1,r13.2.2.2.2.1,r13.2.2.2.2.2.1,r13.2.2.2.2.2.2)).bind fun r14 =>
 some ((r14.1,r14.2.2.1,r14.2.2.2.1,r14.2.2.2.2.1,r14.2.2.2.2.2.1,r14.2.1),r14.2.2.2.2.2.2,(0:Int))
 else
 bif (r12.1.1 == (((((((0:Nat)+(1:Nat))+(1:Nat))+(1:Nat))+(1:Nat)):Nat):Int)) then
 (Z2q (x.2,r12.1,r12.2.1,r12.2.2.1,r12.2.2.2.1,r12.2.2.2.2.1,r12.2.2.2.2.2.1,r12.2.2.2.2.2.2.1,r12.2.2.2.2.2.2.2)).bind fun r13 =>
 (Z2u (r13.1,r13.2.1,r13.2.2.1,r13.2.2.2.1,r13.2.2.2.2.1,r13.2.2.2.2.2.1,r13.2.2.2.2.2.2)).bind fun r14 =>
 some ((r14.1,r14.2.2.1,r14.2.2.2.1,r14.2.2.2.2.1,r14.2.2.2.2.2.1,r14.2.1),r14.2.2.2.2.2.2,(0:Int))
 else
 bif (r12.1.1 == ((((((((0:Nat)+(1:Nat))+(1:Nat))+(1:Nat))+(1:Nat))+(1:Nat)):Nat):Int)) then
 (Z2a (x.2,r12.1,r12.2.1,r12.2.2.1,r12.2.2.2.1,r12.2.2.2.2.1,r12.2.2.2.2.2.1,r12.2.2.2.2.2.2.1,r12.2.2.2.2.2.2.2)).bind fun r13 =>
 (Z2u (r13.1,r13.2.1,r13.2.2.1,r13.2.2.2.1,r13.2.2.2.2.1,r13.2.2.2.2.2.1,r13.2.2.2.2.2.2)).bind fun r14 =>
 some ((r14.1,r14.2.2.1,r14.2.2.2.1,r14.2.2.2.2.1,r14.2.2.2.2.2.1,r14.2.1),r14.2.2.2.2.2.2,(0:Int))
 else
 bif (r12.1.1 == (((((((((0:Nat)+(1:Nat))+(1:Nat))+(1:Nat))+(1:Nat))+(1:Nat))+(1:Nat)):Nat):Int)) then
 (Z37 (x.2,r12.1,r12.2.1,r12.2.2.1,r12.2.2.2.1,r12.2.2.2.2.1,r12.2.2.2.2.2.1,r12.2.2.2.2.2.2.1,r12.2.2.2.2.2.2.2)).bind fun r13 =>
 (Z2u (r13.1,r13.2.1,r13.2.2.1,r13.2.2.2.1,r13.2.2.2.2.1,r13.2.2.2.2.2.1,r13.2.2.2.2.2.2)).bind fun r14 =>
 some ((r14.1,r14.2.2.1,r14.2.2.2.1,r14.2.2.2.2.1,r14.2.2.2.2.2.1,r14.2.1),r14.2.2.2.2.2.2,(0:Int))
 else
 bif (r12.1.1 == ((((((((((0:Nat)+(1:Nat))+(1:Nat))+(1:Nat))+(1:Nat))+(1:Nat))+(1:Nat))+(1:Nat)):Nat):Int)) then
 (Z1w (x.2,r12.1,r12.2.1,r12.2.2.1,r12.2.2.2.1,r12.2.2.2.2.1,r12.2.2.2.2.2.1,r12.2.2.2.2.2.2.1,r12.2.2.2.2.2.2.2)).bind fun r13 =>
 (Z2u (r13.1,r13.2.1,r13.2.2.1,r13.2.2.2.1,r13.2.2.2.2.1,r13.2.2.2.2.2.1,r13.2.2.2.2.2.2)).bind fun r14 =>
 some ((r14.1,r14.2.2.1,r14.2.2.2.1,r14.2.2.2.2.1,r14.2.2.2.2.2.1,r14.2.1),r14.2.2.2.2.2.2,(0:Int))
 else
 bif (r12.1.1 == (((((((((((0:Nat)+(1:Nat))+(1:Nat))+(1:Nat))+(1:Nat))+(1:Nat))+(1:Nat))+(1:Nat))+(1:Nat)):Nat):Int)) then
 (Z20 (x.2,r12.1,r12.2.1,r12.2.2.1,r12.2.2.2.1,r12.2.2.2.2.1,r12.2.2.2.2.2.1,r12.2.2.2.2.2.2.1,r12.2.2.2.2.2.2.2)).bind fun r13 =>
 (Z2u (r13.1,r13.2.1,r13.2.2.1,r13.2.2.2.1,r13.2.2.2.2.1,r13.2.2.2.2.2.1,r13.2.2.2.2.2.2)).bind fun r14 =>
 some ((r14.1,r14.2.2.1,r14.2.2.2.1,r14.2.2.2.2.1,r14.2.2.2.2.2.1,r14.2.1),r14.2.2.2.2.2.2,(0:Int))
 else
 bif (r12.1.1 == ((((((((((((0:Nat)+(1:Nat))+(1:Nat))+(1:Nat))+(1:Nat))+(1:Nat))+(1:Nat))+(1:Nat))+(1:Nat))+(1:Nat)):Nat):Int)) then
 (Z1u (x.2,r12.1,r12.2.1,r12.2.2.1,r12.2.2.2.1,r12.2.2.2.2.1,r12.2.2.2.2.2.1,r12.2.2.2.2.2.2.1,r12.2.2.2.2.2.2.2)).bind fun r13 =>
 (Z2u (r13.1,r13.2.1,r13.2.2.1,r13.2.2.2.1,r13.2.2.2.2.1,r13.2.2.2.2.2.1,r13.2.2.2.2.2.2)).bind fun r14 =>
 some ((r14.1,r14.2.2.1,r14.2.2.2.1,r14.2.2.2.2.1,r14.2.2.2.2.2.1,r14.2.1),r14.2.2.2.2.2.2,(0:Int))
 else
 bif (r12.1.1 == (((((((((((((0:Nat)+(1:Nat))+(1:Nat))+(1:Nat))+(1:Nat))+(1:Nat))+(1:Nat))+(1:Nat))+(1:Nat))+(1:Nat))+(1:Nat)):Nat):Int)) then
 (Z2m (x.2,r12.1,r12.2.1,r12.2.2.1,r12.2.2.2.1,r12.2.2.2.2.1,r12.2.2.2.2.2.1,r12.2.2.2.2.2.2.1,r12.2.2.2.2.2.2.2)).bind fun r13 =>
 (Z2u (r13.1,r13.2.1,r13.2.2.1,r13.2.2.2.1,r13.2.2.2.2.1,r13.2.2.2.2.2.1,r13.2.2.2.2.2.2)).bind fun r14 =>
 some ((r14.1,r14.2.2.1,r14.2.2.2.1,r14.2.2.2.2.1,r14.2.2.2.2.2.1,r14.2.1),r14.2.2.2.2.2.2,(0:Int))
 else
 bif (r12.1.1 == ((((((((((((((0:Nat)+(1:Nat))+(1:Nat))+(1:Nat))+(1:Nat))+(1:Nat))+(1:Nat))+(1:Nat))+(1:Nat))+(1:Nat))+(1:Nat))+(1:Nat)):Nat):Int)) then
 (Z3b (x.2,r12.1,r12.2.1,r12.2.2.1,r12.2.2.2.1,r12.2.2.2.2.1,r12.2.2.2.2.2.1,r12.2.2.2.2.2.2.1,r12.2.2.2.2.2.2.2)).bind fun r13 =>
 (Z2u (r13.1,r13.2.1,r13.2.2.1,r13.2.2.2.1,r13.2.2.2.2.1,r13.2.2.2.2.2.1,r13.2.2.2.2.2.2)).bind fun r14 =>
 some ((r14.1,r14.2.2.1,r14.2.2.2.1,r14.2.2.2.2.1,r14.2.2.2.2.2.1,r14.2.1),r14.2.2.2.2.2.2,(0:Int))
 else
 bif (r12.1.1 == (((((((((((((((0:Nat)+(1:Nat))+(1:Nat))+(1:Nat))+(1:Nat))+(1:Nat))+(1:Nat))+(1:Nat))+(1:Nat))+(1:Nat))+(1:Nat))+(1:Nat))+(1:Nat)):Nat):Int)) then
 (Z28 (x.2,r12.1,r12.2.1,r12.2.2.1,r12.2.2.2.1,r12.2.2.2.2.1,r12.2.2.2.2.2.1,r12.2.2.2.2.2.2.1,r12.2.2.2.2.2.2.2)).bind fun r13 =>
 (Z2u (r13.1,r13.2.1,r13.2.2.1,r13.2.2.2.1,r13.2.2.2.2.1,r13.2.2.2.2.2.1,r13.2.2.2.2.2.2)).bind fun r14 =>
 some ((r14.1,r14.2.2.1,r14.2.2.2.1,r14.2.2.2.2.1,r14.2.2.2.2.2.1,r14.2.1),r14.2.2.2.2.2.2,(0:Int))
 else
 bif (r12.1.1 == ((((((((((((((((0:Nat)+(1:Nat))+(1:Nat))+(1:Nat))+(1:Nat))+(1:Nat))+(1:Nat))+(1:Nat))+(1:Nat))+(1:Nat))+(1:Nat))+(1:Nat))+(1:Nat))+(1:Nat)):Nat):Int)) then
 (Z2i (x.2,r12.1,r12.2.1,r12.2.2.1,r12.2.2.2.1,r12.2.2.2.2.1,r12.2.2.2.2.2.1,r12.2.2.2.2.2.2.1,r12.2.2.2.2.2.2.2)).bind fun r13 =>
 (Z2u (r13.1,r13.2.1,r13.2.2.1,r13.2.2.2.1,r13.2.2.2.2.1,r13.2.2.2.2.2.1,r13.2.2.2.2.2.2)).bind fun r14 =>
 some ((r14.1,r14.2.2.1,r14.2.2.2.1,r14.2.2.2.2.1,r14.2.2.2.2.2.1,r14.2.1),r14.2.2.2.2.2.2,(0:Int))
 else
 none
abbrev Znr:=Spec.shp Zgj Zk5 Z1a
def Za2:Ctx:={ tb:=mkTb T2.tbl,fx:=[(22,[],Znp),(59,[],Zq5),(60,[],Zpt),(61,[],Zps),(62,[],Zpu),(63,[],Zpv),(78,[],Zo7),(64,[],Zob),(42,[],Zoj),(65,[],Zoi),(66,[],Zog),(67,[],Zom),(68,[],Zoh),(69,[],Zo9),(70,[],Zop),(71,[],Zo2),(72,[],Zo4),(73,[],Zo1),(74,[],Zof),(75,[],Zor),(76,[],Zo8),(77,[],Zod)],sum:=[],nt:=70,pin:=0,nr:=true,ys:=[] }
theorem Z1b:Sound Tryz.prog 23 (Znr) :=
 Sound.shp (C:=Za2) (fn:=Tryz.f23) (by kernel_rfl) (c:=bodyOf Tryz.f23) (by kernel_rfl) (by decide) (ctxOK mixed tbl_ok rfl ⟨Z17,Z67,Z5j,Z5h,Z5l,Z5n,Z27,Z2f,Z30,Z2t,Z2p,Z32,Z2r,Z2b,Z38,Z1x,Z21,Z1v,Z2n,Z3c,Z29,Z2j,trivial⟩ trivial) (SumOK.of trivial) (by kernel_rfl) Zgj Zk5 rfl (by decide) (by decide) rfl (by decide) rfl Z1a (fun x=>by kernel_rfl)
abbrev Zht:Shape:={ sl:=[],bl:=[],ts:=[],pin:=0 }
abbrev Zlf:Shape:={ sl:=sl_6,bl:=[],ts:=[y39],pin:=0 }
def Z3v (x:Unit):Option (T47) :=
 some (((0:Int) :: ([]:List Int)),(0:Int),(0:Int),(0:Int),([]:List T21),((((9:Int),(1:Int),(0:Int)) :: (((2:Int),(0:Int),(0:Int)) :: ([]:List T7))) :: ((((1:Int),(0:Int),(0:Int)) :: ([]:List T7)) :: ([]:List (List T7)))))
abbrev Zp1:=Spec.shp Zht Zlf Z3v
def Zbt:Ctx:={ tb:=mkTb T2.tbl,fx:=[],sum:=[],nt:=9,pin:=0,nr:=true,ys:=[] }
theorem Z3w:Sound Tryz.prog 44 (Zp1) :=
 Sound.shp (C:=Zbt) (fn:=Tryz.f44) (by kernel_rfl) (c:=bodyOf Tryz.f44) (by kernel_rfl) (by decide) (ctxOK mixed tbl_ok rfl trivial trivial) (SumOK.of trivial) (by kernel_rfl) Zht Zlf rfl (by decide) (by decide) rfl (by decide) rfl Z3v (fun x=>by kernel_rfl)
abbrev Zfe:Shape:={ sl:=[(1,(.ptr 0 [])),(2,(.hole y27)),(3,(.hole (.int .i64))),(4,(.sl 1)),(19,(.sl 2)),(20,(.hole (.int .i64))),(21,(.hole (.int .i64)))],bl:=[.var (.hole y45),.row (.int .i64),.row (.int .i64)],ts:=[y27,(.int .i64),(.int .i64),(.int .i64),y45,y0,y0],pin:=0 }
abbrev Zef:List (ETag × Shape):=[(.ret,{ sl:=sl_1,bl:=[],ts:=ts_1,pin:=0 }),(.exit 0,{ sl:=[(1,(.ptr 0 [])),(2,(.hole y27)),(3,(.hole (.int .i64))),(4,(.sl 1))],bl:=[.var (.hole y45),.row (.int .i64)],ts:=[y27,(.int .i64),y45,y0],pin:=0 })]
def Z8a (x:(List (T20) × Int × Int × Int × (T47 × T61) × List Int × List Int)):Option ((List (T20) × Int × Int × Int × (T47 × T61) × List Int × List Int) ⊕ ((Bool) ⊕ (List (T20) × Int × (T47 × T61) × List Int))) :=
 bif (decide (x.2.2.2.1 < x.2.2.1)) then
 bif (inb x.2.2.2.1 (List.length x.2.2.2.2.2.2)) then
 (Z1a (x.2.2.2.2.1,(getAt (0:Int) x.2.2.2.2.2.2 (toN x.2.2.2.1)),(Int.negSucc 0))).bind fun r10 =>
 bif (r10.2.2 != (0:Int)) then
 some (.inr (.inl false))
 else
 bif (fits ((List.length ([]:List T20))+(List.length x.1))) then
 bif (fits ((List.length (([]:List T20)++x.1))+(List.length r10.2.1))) then
 some (.inl (((([]:List T20)++x.1)++r10.2.1),x.2.1,x.2.2.1,(IntKind.wrap .i64 (x.2.2.2.1+(1:Int))),r10.1,x.2.2.2.2.2.1,x.2.2.2.2.2.2))
 else
 none
 else
 none
 else
 none
 else
 some (.inr (.inr (x.1,x.2.1,x.2.2.2.2.1,x.2.2.2.2.2.1)))
def Zbp:Ctx:={ tb:=mkTb T2.tbl,fx:=[(44,[],Zp1),(14,[],Znq),(23,[],Znr)],sum:=[],nt:=71,pin:=0,nr:=true,ys:=[] }
theorem Z8b:CSound Tryz.prog ⟨71,0,true⟩ (.loop (loopOf 5 Tryz.f16)) (Yb0 Zfe Zef (loop Z8a)) :=
 Y8i (C:=Zbp) (ctxOK mixed tbl_ok rfl ⟨Z3w,Z19,Z1b,trivial⟩ trivial) (SumOK.of trivial) Zfe Zef rfl rfl Z8a (fun x=>by kernel_rfl)
abbrev Zfd:Shape:={ sl:=[(4,(.sl 0)),(56,(.hole y27)),(57,(.hole (.int .i64))),(58,(.hole (.int .i64)))],bl:=bl_14,ts:=[y27,(.int .i64),(.int .i64),y0],pin:=0 }
abbrev Zee:List (ETag × Shape):=[(.ret,{ sl:=sl_1,bl:=[],ts:=ts_1,pin:=0 }),(.exit 2,{ sl:=[],bl:=[],ts:=[],pin:=0 })]
def Z88 (x:(List (T20) × Int × Int × List Int)):Option ((List (T20) × Int × Int × List Int) ⊕ ((Bool) ⊕ Unit)) :=
 bif (decide (x.2.2.1 < x.2.1)) then
 bif (inb x.2.2.1 (List.length x.1)) then
 bif (inb x.2.2.1 (List.length x.2.2.2)) then
 bif ((getAt ((0:Int),(0:Int),(0:Int),(0:Int),(0:Int)) x.1 (toN x.2.2.1)).2.1 != (getAt (0:Int) x.2.2.2 (toN x.2.2.1))) then
 some (.inr (.inl false))
 else
 some (.inl (x.1,x.2.1,(IntKind.wrap .i64 (x.2.2.1+(1:Int))),x.2.2.2))
 else
 none
 else
 none
 else
 some (.inr (.inr ()))
def Zbo:Ctx:={ tb:=mkTb T2.tbl,fx:=[(44,[],Zp1),(14,[],Znq),(23,[],Znr)],sum:=[(0,5,Yb0 Zfe Zef (loop Z8a))],nt:=71,pin:=0,nr:=true,ys:=[] }
theorem Z89:CSound Tryz.prog ⟨71,0,true⟩ (.loop (loopOf 15 Tryz.f16)) (Yb0 Zfd Zee (loop Z88)) :=
 Y8i (C:=Zbo) (ctxOK mixed tbl_ok rfl ⟨Z3w,Z19,Z1b,trivial⟩ trivial) (SumOK.of ⟨(Yb1 (by kernel_rfl)),trivial⟩) Zfd Zee rfl rfl Z88 (fun x=>by kernel_rfl)
abbrev Zhr:Shape:={ sl:=[],bl:=[],ts:=[],pin:=0 }
abbrev Zld:Shape:={ sl:=sl_1,bl:=[],ts:=ts_1,pin:=0 }
def Z3r (x:Unit):Option (Bool) :=
 (Z3v ()).bind fun r7 =>
 (Z18 r7).bind fun r8 =>
 (loop Z8a (r8.2.1,r8.2.2,(((List.length ((0:Int) :: ((0:Int) :: ((1:Int) :: ([]:List Int))))):Nat):Int),(0:Int),r8.1,((0:Int) :: ((1:Int) :: ((0:Int) :: ((4:Int) :: ((2:Int) :: ((5:Int) :: ((3:Int) :: ([]:List Int)))))))),((0:Int) :: ((0:Int) :: ((1:Int) :: ([]:List Int)))))).bind fun r9 =>
 match r9 with
 | .inl y10 =>
 some y10
 | .inr y10 =>
 bif (y10.2.1 != (0:Int)) then
 some false
 else
 bif ((((List.length y10.1):Nat):Int) != (((List.length y10.2.2.2):Nat):Int)) then
 some false
 else
 bif (y10.2.2.1.2.2.2.2.2.2 != (1:Int)) then
 some false
 else
 (loop Z88 (y10.1,(((List.length y10.1):Nat):Int),(0:Int),y10.2.2.2)).bind fun r11 =>
 match r11 with
 | .inl y12 =>
 some y12
 | .inr y12 =>
 some true
abbrev Zoz:=Spec.shp Zhr Zld Z3r
def Zbn:Ctx:={ tb:=mkTb T2.tbl,fx:=[(44,[],Zp1),(14,[],Znq),(23,[],Znr)],sum:=[(0,5,Yb0 Zfe Zef (loop Z8a)),(0,15,Yb0 Zfd Zee (loop Z88))],nt:=71,pin:=0,nr:=true,ys:=[] }
theorem Z3s:Sound Tryz.prog 16 (Zoz) :=
 Sound.shp (C:=Zbn) (fn:=Tryz.f16) (by kernel_rfl) (c:=bodyOf Tryz.f16) (by kernel_rfl) (by decide) (ctxOK mixed tbl_ok rfl ⟨Z3w,Z19,Z1b,trivial⟩ trivial) (SumOK.of ⟨(Yb2 (d:=.loop (loopOf 5 Tryz.f16)) (by kernel_rfl) Z8b),(Yb2 (d:=.loop (loopOf 15 Tryz.f16)) (by kernel_rfl) Z89),trivial⟩) (by kernel_rfl) Zhr Zld rfl (by decide) (by decide) rfl (by decide) rfl Z3r (fun x=>by kernel_rfl)
abbrev Zfg:Shape:={ sl:=sl_32,bl:=bl_18,ts:=ts_16,pin:=0 }
abbrev Zeh:List (ETag × Shape):=[(.exit 0,{ sl:=[(1,(.ptr 0 [])),(2,(.ptr 1 [])),(3,(.sl 2))],bl:=bl_18,ts:=[y39,(.int .i64),(.int .i64),(.int .i64),(.slice y9)],pin:=0 })]
def Z8e (x:T55):Option (T55 ⊕ (T47 × Int × Int × Int × List (T12))) :=
 bif (decide (x.2.2.1 < x.2.1)) then
 bif (inb x.2.2.1 (List.length x.1)) then
 bif (sub3 (0:Int) (Min.min (((List.length (getAt (([]:List T0),false) x.1 (toN x.2.2.1)).1):Nat):Int) (6:Int)) (List.length (getAt (([]:List T0),false) x.1 (toN x.2.2.1)).1)) then
 bif (fits ((List.length x.2.2.2.2.2.2.2)+(List.length (((cut (getAt (([]:List T0),false) x.1 (toN x.2.2.1)).1 (toN (0:Int)) ((toN (Min.min (((List.length (getAt (([]:List T0),false) x.1 (toN x.2.2.1)).1):Nat):Int) (6:Int))) - (toN (0:Int)))),(getAt (([]:List T0),false) x.1 (toN x.2.2.1)).2) :: ([]:List T21))))) then
 some (.inl (x.1,x.2.1,(IntKind.wrap .i64 (x.2.2.1+(1:Int))),x.2.2.2.1,x.2.2.2.2.1,x.2.2.2.2.2.1,x.2.2.2.2.2.2.1,(x.2.2.2.2.2.2.2++(((cut (getAt (([]:List T0),false) x.1 (toN x.2.2.1)).1 (toN (0:Int)) ((toN (Min.min (((List.length (getAt (([]:List T0),false) x.1 (toN x.2.2.1)).1):Nat):Int) (6:Int))) - (toN (0:Int)))),(getAt (([]:List T0),false) x.1 (toN x.2.2.1)).2) :: ([]:List T21)))))
 else
 none
 else
 none
 else
 none
 else
 some (.inr (x.2.2.2.1,x.2.2.2.2.1,x.2.2.2.2.2.1,x.2.2.2.2.2.2.1,x.2.2.2.2.2.2.2))
def Zbs:Ctx:={ tb:=mkTb T2.tbl,fx:=[],sum:=[],nt:=68,pin:=0,nr:=true,ys:=[] }
theorem Z8f:CSound Tryz.prog ⟨68,0,true⟩ (.loop (loopOf 5 Tryz.f13)) (Yb0 Zfg Zeh (loop Z8e)) :=
 Y8i (C:=Zbs) (ctxOK mixed tbl_ok rfl trivial trivial) (SumOK.of trivial) Zfg Zeh rfl rfl Z8e (fun x=>by kernel_rfl)
abbrev Zff:Shape:={ sl:=sl_33,bl:=bl_19,ts:=ts_17,pin:=0 }
abbrev Zeg:List (ETag × Shape):=[(.exit 2,{ sl:=[(1,(.ptr 0 [])),(2,(.ptr 1 [])),(3,(.sl 2)),(6,(.sl 3))],bl:=bl_19,ts:=[y39,(.int .i64),(.int .i64),(.int .i64),(.slice y9),y10],pin:=0 })]
def Z8c (x:T59):Option (T59 ⊕ (T47 × Int × Int × Int × List (T12) × List (List (T7)))) :=
 bif (decide (x.2.2.1 < x.2.1)) then
 bif (inb x.2.2.1 (List.length x.1)) then
 bif (sub3 (0:Int) (Min.min (((List.length (getAt ([]:List T7) x.1 (toN x.2.2.1))):Nat):Int) (30:Int)) (List.length (getAt ([]:List T7) x.1 (toN x.2.2.1)))) then
 bif (fits ((List.length x.2.2.2.2.2.2.2.2)+(List.length ((cut (getAt ([]:List T7) x.1 (toN x.2.2.1)) (toN (0:Int)) ((toN (Min.min (((List.length (getAt ([]:List T7) x.1 (toN x.2.2.1))):Nat):Int) (30:Int))) - (toN (0:Int)))) :: ([]:List (List T7)))))) then
 some (.inl (x.1,x.2.1,(IntKind.wrap .i64 (x.2.2.1+(1:Int))),x.2.2.2.1,x.2.2.2.2.1,x.2.2.2.2.2.1,x.2.2.2.2.2.2.1,x.2.2.2.2.2.2.2.1,(x.2.2.2.2.2.2.2.2++((cut (getAt ([]:List T7) x.1 (toN x.2.2.1)) (toN (0:Int)) ((toN (Min.min (((List.length (getAt ([]:List T7) x.1 (toN x.2.2.1))):Nat):Int) (30:Int))) - (toN (0:Int)))) :: ([]:List (List T7))))))
 else
 none
 else
 none
 else
 none
 else
 some (.inr (x.2.2.2.1,x.2.2.2.2.1,x.2.2.2.2.2.1,x.2.2.2.2.2.2.1,x.2.2.2.2.2.2.2.1,x.2.2.2.2.2.2.2.2))
def Zbr:Ctx:={ tb:=mkTb T2.tbl,fx:=[],sum:=[(0,5,Yb0 Zfg Zeh (loop Z8e))],nt:=68,pin:=0,nr:=true,ys:=[] }
theorem Z8d:CSound Tryz.prog ⟨68,0,true⟩ (.loop (loopOf 12 Tryz.f13)) (Yb0 Zff Zeg (loop Z8c)) :=
 Y8i (C:=Zbr) (ctxOK mixed tbl_ok rfl trivial trivial) (SumOK.of ⟨(Yb1 (by kernel_rfl)),trivial⟩) Zff Zeg rfl rfl Z8c (fun x=>by kernel_rfl)
abbrev Zhs:Shape:={ sl:=sl_6,bl:=[],ts:=[y39],pin:=0 }
abbrev Zle:Shape:={ sl:=sl_6,bl:=[],ts:=[y39],pin:=0 }
def Z3t (x:(T47)):Option (T47) :=
 bif (sub3 (0:Int) (Min.min (((List.length x.1):Nat):Int) (6:Int)) (List.length x.1)) then
 bif (sub3 (0:Int) (Min.min (((List.length x.2.2.2.2.1):Nat):Int) (6:Int)) (List.length x.2.2.2.2.1)) then
 (loop Z8e ((cut x.2.2.2.2.1 (toN (0:Int)) ((toN (Min.min (((List.length x.2.2.2.2.1):Nat):Int) (6:Int))) - (toN (0:Int)))),(((List.length (cut x.2.2.2.2.1 (toN (0:Int)) ((toN (Min.min (((List.length x.2.2.2.2.1):Nat):Int) (6:Int))) - (toN (0:Int))))):Nat):Int),(0:Int),((cut x.1 (toN (0:Int)) ((toN (Min.min (((List.length x.1):Nat):Int) (6:Int))) - (toN (0:Int)))),x.2),(0:Int),(0:Int),(0:Int),([]:List T21))).bind fun r2 =>
 bif (sub3 (0:Int) (Min.min (((List.length r2.1.2.2.2.2.2):Nat):Int) (8:Int)) (List.length r2.1.2.2.2.2.2)) then
 (loop Z8c ((cut r2.1.2.2.2.2.2 (toN (0:Int)) ((toN (Min.min (((List.length r2.1.2.2.2.2.2):Nat):Int) (8:Int))) - (toN (0:Int)))),(((List.length (cut r2.1.2.2.2.2.2 (toN (0:Int)) ((toN (Min.min (((List.length r2.1.2.2.2.2.2):Nat):Int) (8:Int))) - (toN (0:Int))))):Nat):Int),(0:Int),r2.1,r2.2.1,r2.2.2.1,r2.2.2.2.1,r2.2.2.2.2,([]:List (List T7)))).bind fun r3 =>
 some (r3.1.1,r3.1.2.1,r3.1.2.2.1,r3.1.2.2.2.1,r3.2.2.2.2.1,r3.2.2.2.2.2)
 else
 none
 else
 none
 else
 none
abbrev Zp0:=Spec.shp Zhs Zle Z3t
def Zbq:Ctx:={ tb:=mkTb T2.tbl,fx:=[],sum:=[(0,5,Yb0 Zfg Zeh (loop Z8e)),(0,12,Yb0 Zff Zeg (loop Z8c))],nt:=68,pin:=0,nr:=true,ys:=[] }
theorem Z3u:Sound Tryz.prog 13 (Zp0) :=
 Sound.shp (C:=Zbq) (fn:=Tryz.f13) (by kernel_rfl) (c:=bodyOf Tryz.f13) (by kernel_rfl) (by decide) (ctxOK mixed tbl_ok rfl trivial trivial) (SumOK.of ⟨(Yb2 (d:=.loop (loopOf 5 Tryz.f13)) (by kernel_rfl) Z8f),(Yb2 (d:=.loop (loopOf 12 Tryz.f13)) (by kernel_rfl) Z8d),trivial⟩) (by kernel_rfl) Zhs Zle rfl (by decide) (by decide) rfl (by decide) rfl Z3t (fun x=>by kernel_rfl)
def Z8g (x:T26):Option (T26 ⊕ ((Bool) ⊕ Unit)) :=
 bif (decide (x.2.2.2 < x.2.2.1)) then
 bif (inb x.2.2.2 (List.length x.1)) then
 bif (inb x.2.2.2 (List.length x.2.1)) then
 bif (Bool.not (((getAt ((0:Int),(0:Int),(0:Int)) x.1 (toN x.2.2.2)).1 == (getAt ((0:Int),(0:Int),(0:Int)) x.2.1 (toN x.2.2.2)).1) && (((getAt ((0:Int),(0:Int),(0:Int)) x.1 (toN x.2.2.2)).2.1 == (getAt ((0:Int),(0:Int),(0:Int)) x.2.1 (toN x.2.2.2)).2.1) && ((getAt ((0:Int),(0:Int),(0:Int)) x.1 (toN x.2.2.2)).2.2 == (getAt ((0:Int),(0:Int),(0:Int)) x.2.1 (toN x.2.2.2)).2.2)))) then
 some (.inr (.inl false))
 else
 some (.inl (x.1,x.2.1,x.2.2.1,(IntKind.wrap .i64 (x.2.2.2+(1:Int)))))
 else
 none
 else
 none
 else
 some (.inr (.inr ()))
def Z3z (x:T24):Option (Bool) :=
 bif ((((List.length x.1):Nat):Int) != (((List.length x.2):Nat):Int)) then
 some false
 else
 (loop Z8g (x.1,x.2,(((List.length x.1):Nat):Int),(0:Int))).bind fun r11 =>
 match r11 with
 | .inl y12 =>
 some y12
 | .inr y12 =>
 some true
end
end Go.Proofs.YthdlpkdojipfhaaGreat.VX.VxM_M
set_option linter.unusedVariables false
set_option maxRecDepth 100000
namespace Go.Proofs.YthdlpkdojipfhaaGreat.VX.VxM_M
open Go.Proofs Go.Proofs.YthdlpkdojipfhaaGreat.VX.T2
noncomputable section
abbrev Zhu:Shape:={ sl:=[(0,(.hole (.slice y4))),(1,(.hole (.int .i64)))],bl:=[],ts:=[(.slice y4),(.int .i64)],pin:=0 }
abbrev Zlg:Shape:={ sl:=[(0,(.hole y4))],bl:=[],ts:=[y4],pin:=0 }
def Z3x (x:(List (Int × Int) × Int)):Option (Int × Int) :=
 bif ((IntKind.wrap .u64 (((List.length x.1):Nat):Int)) != (0:Int)) then
 bif (inb (IntKind.wrap .i64 (Int.tmod (IntKind.wrap .u64 x.2) (IntKind.wrap .u64 (((List.length x.1):Nat):Int)))) (List.length x.1)) then
 some (getAt ((0:Int),(0:Int)) x.1 (toN (IntKind.wrap .i64 (Int.tmod (IntKind.wrap .u64 x.2) (IntKind.wrap .u64 (((List.length x.1):Nat):Int))))))
 else
 none
 else
 none
abbrev Zp2:=Spec.shp Zhu Zlg Z3x
def Zbu:Ctx:={ tb:=mkTb T2.tbl,fx:=[],sum:=[],nt:=15,pin:=0,nr:=true,ys:=[] }
theorem Z3y:Sound Tryz.prog 24 (Zp2) :=
 Sound.shp (C:=Zbu) (fn:=Tryz.f24) (by kernel_rfl) (c:=bodyOf Tryz.f24) (by kernel_rfl) (by decide) (ctxOK mixed tbl_ok rfl trivial trivial) (SumOK.of trivial) (by kernel_rfl) Zhu Zlg rfl (by decide) (by decide) rfl (by decide) rfl Z3x (fun x=>by kernel_rfl)
abbrev Zf9:Shape:={ sl:=[(5,(.ptr 0 [])),(11,(.hole (.int .i64))),(12,(.hole (.int .i64))),(84,(.hole y18)),(85,(.hole (.int .i64))),(86,(.hole (.int .i64)))],bl:=bl_9,ts:=[(.int .i64),(.int .i64),y18,(.int .i64),(.int .i64),y45],pin:=0 }
abbrev Zea:List (ETag × Shape):=[(.exit 2,{ sl:=[(5,(.ptr 0 [])),(11,(.hole (.int .i64))),(12,(.hole (.int .i64)))],bl:=bl_9,ts:=[(.int .i64),(.int .i64),y45],pin:=0 })]
def Z80 (x:(Int × Int × List (T17) × Int × Int × (T47 × T61))):Option ((Int × Int × List (T17) × Int × Int × (T47 × T61)) ⊕ (Int × Int × (T47 × T61))) :=
 bif (decide (x.2.2.2.2.1 < x.2.2.2.1)) then
 bif (inb x.2.2.2.2.1 (List.length x.2.2.1)) then
 bif ((getAt ((0:Int),(0:Int),(0:Int),false) x.2.2.1 (toN x.2.2.2.2.1)).2.2.1 == (2:Int)) then
 some (.inl ((IntKind.wrap .i64 (x.1+(1:Int))),x.2.1,x.2.2.1,x.2.2.2.1,(IntKind.wrap .i64 (x.2.2.2.2.1+(1:Int))),x.2.2.2.2.2))
 else
 bif ((getAt ((0:Int),(0:Int),(0:Int),false) x.2.2.1 (toN x.2.2.2.2.1)).2.2.1 == (1:Int)) then
 some (.inl (x.1,(IntKind.wrap .i64 (x.2.1+(1:Int))),x.2.2.1,x.2.2.2.1,(IntKind.wrap .i64 (x.2.2.2.2.1+(1:Int))),x.2.2.2.2.2))
 else
 some (.inl (x.1,x.2.1,x.2.2.1,x.2.2.2.1,(IntKind.wrap .i64 (x.2.2.2.2.1+(1:Int))),x.2.2.2.2.2))
 else
 none
 else
 some (.inr (x.1,x.2.1,x.2.2.2.2.2))
def Zbj:Ctx:={ tb:=mkTb T2.tbl,fx:=[(13,[],Zp0),(14,[],Znq),(16,[],Zoz),(22,[],Znp)],sum:=[],nt:=284,pin:=0,nr:=true,ys:=[] }
theorem Z81:CSound Tryz.prog ⟨284,0,true⟩ (.loop (loopOf 16 Tryz.f4)) (Yb0 Zf9 Zea (loop Z80)) :=
 Y8i (C:=Zbj) (ctxOK mixed tbl_ok rfl ⟨Z3u,Z19,Z3s,Z17,trivial⟩ trivial) (SumOK.of trivial) Zf9 Zea rfl rfl Z80 (fun x=>by kernel_rfl)
abbrev Zfa:Shape:={ sl:=[(5,(.ptr 0 [])),(15,(.ptr 1 [])),(16,(.ptr 2 [])),(19,(.mp 3)),(65,(.hole y0)),(66,(.hole (.int .i64))),(67,(.hole (.int .i64))),(205,(.hole y27)),(206,(.hole (.int .i64))),(207,(.hole (.int .i64)))],bl:=bl_30,ts:=[y0,(.int .i64),(.int .i64),y27,(.int .i64),(.int .i64),y45,y4,y45,(.slice y4)],pin:=0 }
abbrev Zeb:List (ETag × Shape):=[(.ret,{ sl:=sl_35,bl:=[],ts:=ts_1,pin:=0 }),(.exit 5,{ sl:=[(5,(.ptr 0 [])),(15,(.ptr 1 [])),(16,(.ptr 2 [])),(19,(.mp 3)),(65,(.hole y0)),(66,(.hole (.int .i64))),(67,(.hole (.int .i64)))],bl:=bl_30,ts:=[y0,(.int .i64),(.int .i64),y45,y4,y45,(.slice y4)],pin:=0 })]
def Z82 (x:(List Int × Int × Int × List (T20) × Int × Int × (T47 × T61) × (Int × Int) × (T47 × T61) × List (Int × Int))):Option ((List Int × Int × Int × List (T20) × Int × Int × (T47 × T61) × (Int × Int) × (T47 × T61) × List (Int × Int)) ⊕ ((Bool) ⊕ (List Int × Int × Int × (T47 × T61) × (Int × Int) × (T47 × T61) × List (Int × Int)))) :=
 bif (decide (x.2.2.2.2.2.1 < x.2.2.2.2.1)) then
 bif (inb x.2.2.2.2.2.1 (List.length x.2.2.2.1)) then
 bif (decide ((getAt ((0:Int),(0:Int),(0:Int),(0:Int),(0:Int)) x.2.2.2.1 (toN x.2.2.2.2.2.1)).1 < (0:Int))) then
 some (.inr (.inl false))
 else
 bif (decide ((getAt ((0:Int),(0:Int),(0:Int),(0:Int),(0:Int)) x.2.2.2.1 (toN x.2.2.2.2.2.1)).1 ≥ (((List.length x.2.2.2.2.2.2.2.2.1.2.1):Nat):Int))) then
 some (.inr (.inl false))
 else
 bif (decide ((getAt ((0:Int),(0:Int),(0:Int),(0:Int),(0:Int)) x.2.2.2.1 (toN x.2.2.2.2.2.1)).2.2.2.2 < (Int.negSucc 0))) then
 some (.inr (.inl false))
 else
 bif (decide ((getAt ((0:Int),(0:Int),(0:Int),(0:Int),(0:Int)) x.2.2.2.1 (toN x.2.2.2.2.2.1)).2.2.2.2 ≥ x.2.2.2.2.2.2.2.2.1.2.2.2.2.2.1)) then
 some (.inr (.inl false))
 else
 some (.inl (x.1,x.2.1,x.2.2.1,x.2.2.2.1,x.2.2.2.2.1,(IntKind.wrap .i64 (x.2.2.2.2.2.1+(1:Int))),x.2.2.2.2.2.2.1,x.2.2.2.2.2.2.2.1,x.2.2.2.2.2.2.2.2.1,(@mput (Int) (Int) (Ty.beq (.int .i64)) (getAt ((0:Int),(0:Int),(0:Int),(0:Int),(0:Int)) x.2.2.2.1 (toN x.2.2.2.2.2.1)).1 (IntKind.wrap .i64 ((@mlook (Int) (Int) (Ty.beq (.int .i64)) (Ty.zero (.int .i64)) (getAt ((0:Int),(0:Int),(0:Int),(0:Int),(0:Int)) x.2.2.2.1 (toN x.2.2.2.2.2.1)).1 x.2.2.2.2.2.2.2.2.2)+(1:Int))) x.2.2.2.2.2.2.2.2.2)))
 else
 none
 else
 some (.inr (.inr (x.1,x.2.1,x.2.2.1,x.2.2.2.2.2.2.1,x.2.2.2.2.2.2.2.1,x.2.2.2.2.2.2.2.2.1,x.2.2.2.2.2.2.2.2.2)))
def Zbk:Ctx:={ tb:=mkTb T2.tbl,fx:=[(13,[],Zp0),(14,[],Znq),(16,[],Zoz),(22,[],Znp),(24,[],Zp2),(23,[],Znr)],sum:=[(0,16,Yb0 Zf9 Zea (loop Z80))],nt:=284,pin:=0,nr:=true,ys:=[] }
theorem Z83:CSound Tryz.prog ⟨284,0,true⟩ (.loop (loopOf 33 Tryz.f4)) (Yb0 Zfa Zeb (loop Z82)) :=
 Y8i (C:=Zbk) (ctxOK mixed tbl_ok rfl ⟨Z3u,Z19,Z3s,Z17,Z3y,Z1b,trivial⟩ trivial) (SumOK.of ⟨(Yb1 (by kernel_rfl)),trivial⟩) Zfa Zeb rfl rfl Z82 (fun x=>by kernel_rfl)
abbrev Zfb:Shape:={ sl:=[(5,(.ptr 0 [])),(15,(.ptr 1 [])),(16,(.ptr 2 [])),(19,(.mp 3)),(65,(.hole y0)),(66,(.hole (.int .i64))),(67,(.hole (.int .i64))),(241,(.hole y18)),(242,(.hole (.int .i64))),(243,(.hole (.int .i64)))],bl:=bl_30,ts:=[y0,(.int .i64),(.int .i64),y18,(.int .i64),(.int .i64),y45,y4,y45,(.slice y4)],pin:=0 }
abbrev Zec:List (ETag × Shape):=[(.ret,{ sl:=sl_35,bl:=[],ts:=ts_1,pin:=0 }),(.exit 7,{ sl:=[(5,(.ptr 0 [])),(16,(.ptr 1 [])),(65,(.hole y0)),(66,(.hole (.int .i64))),(67,(.hole (.int .i64)))],bl:=bl_20,ts:=[y0,(.int .i64),(.int .i64),y45,y45],pin:=0 })]
def Z84 (x:(List Int × Int × Int × List (T17) × Int × Int × (T47 × T61) × (Int × Int) × (T47 × T61) × List (Int × Int))):Option ((List Int × Int × Int × List (T17) × Int × Int × (T47 × T61) × (Int × Int) × (T47 × T61) × List (Int × Int)) ⊕ ((Bool) ⊕ (List Int × Int × Int × (T47 × T61) × (T47 × T61)))) :=
 bif (decide (x.2.2.2.2.2.1 < x.2.2.2.2.1)) then
 bif (inb x.2.2.2.2.2.1 (List.length x.2.2.2.1)) then
 bif (x.2.2.2.2.2.1 != x.2.2.2.2.2.2.2.1.1) then
 bif (inb x.2.2.2.2.2.1 (List.length x.2.2.2.2.2.2.2.2.1.2.1)) then
 bif (Bool.not (((getAt ((0:Int),(0:Int),(0:Int),false) x.2.2.2.1 (toN x.2.2.2.2.2.1)).1 == (getAt ((0:Int),(0:Int),(0:Int),false) x.2.2.2.2.2.2.2.2.1.2.1 (toN x.2.2.2.2.2.1)).1) && (((getAt ((0:Int),(0:Int),(0:Int),false) x.2.2.2.1 (toN x.2.2.2.2.2.1)).2.1 == (getAt ((0:Int),(0:Int),(0:Int),false) x.2.2.2.2.2.2.2.2.1.2.1 (toN x.2.2.2.2.2.1)).2.1) && (((getAt ((0:Int),(0:Int),(0:Int),false) x.2.2.2.1 (toN x.2.2.2.2.2.1)).2.2.1 == (getAt ((0:Int),(0:Int),(0:Int),false) x.2.2.2.2.2.2.2.2.1.2.1 (toN x.2.2.2.2.2.1)).2.2.1) && ((getAt ((0:Int),(0:Int),(0:Int),false) x.2.2.2.1 (toN x.2.2.2.2.2.1)).2.2.2 == (getAt ((0:Int),(0:Int),(0:Int),false) x.2.2.2.2.2.2.2.2.1.2.1 (toN x.2.2.2.2.2.1)).2.2.2))))) then
 bif ((getAt ((0:Int),(0:Int),(0:Int),false) x.2.2.2.1 (toN x.2.2.2.2.2.1)).2.2.1 != (1:Int)) then
 some (.inr (.inl false))
 else
 bif ((@mlook (Int) (Int) (Ty.beq (.int .i64)) (Ty.zero (.int .i64)) x.2.2.2.2.2.1 x.2.2.2.2.2.2.2.2.2) != (1:Int)) then
 some (.inr (.inl false))
 else
 bif (inb x.2.2.2.2.2.1 (List.length x.2.2.2.2.2.2.2.2.1.2.1)) then
 bif ((getAt ((0:Int),(0:Int),(0:Int),false) x.2.2.2.2.2.2.2.2.1.2.1 (toN x.2.2.2.2.2.1)).2.2.1 == (1:Int)) then
 some (.inr (.inl false))
 else
 some (.inl (x.1,x.2.1,x.2.2.1,x.2.2.2.1,x.2.2.2.2.1,(IntKind.wrap .i64 (x.2.2.2.2.2.1+(1:Int))),x.2.2.2.2.2.2.1,x.2.2.2.2.2.2.2.1,x.2.2.2.2.2.2.2.2.1,x.2.2.2.2.2.2.2.2.2))
 else
 none
 else
 some (.inl (x.1,x.2.1,x.2.2.1,x.2.2.2.1,x.2.2.2.2.1,(IntKind.wrap .i64 (x.2.2.2.2.2.1+(1:Int))),x.2.2.2.2.2.2.1,x.2.2.2.2.2.2.2.1,x.2.2.2.2.2.2.2.2.1,x.2.2.2.2.2.2.2.2.2))
 else
 none
 else
 some (.inl (x.1,x.2.1,x.2.2.1,x.2.2.2.1,x.2.2.2.2.1,(IntKind.wrap .i64 (x.2.2.2.2.2.1+(1:Int))),x.2.2.2.2.2.2.1,x.2.2.2.2.2.2.2.1,x.2.2.2.2.2.2.2.2.1,x.2.2.2.2.2.2.2.2.2))
 else
 none
 else
 some (.inr (.inr (x.1,x.2.1,x.2.2.1,x.2.2.2.2.2.2.1,x.2.2.2.2.2.2.2.2.1)))
def Zbl:Ctx:={ tb:=mkTb T2.tbl,fx:=[(13,[],Zp0),(14,[],Znq),(16,[],Zoz),(22,[],Znp),(24,[],Zp2),(23,[],Znr)],sum:=[(0,16,Yb0 Zf9 Zea (loop Z80)),(0,33,Yb0 Zfa Zeb (loop Z82))],nt:=284,pin:=0,nr:=true,ys:=[] }
theorem Z85:CSound Tryz.prog ⟨284,0,true⟩ (.loop (loopOf 40 Tryz.f4)) (Yb0 Zfb Zec (loop Z84)) :=
 Y8i (C:=Zbl) (ctxOK mixed tbl_ok rfl ⟨Z3u,Z19,Z3s,Z17,Z3y,Z1b,trivial⟩ trivial) (SumOK.of ⟨(Yb1 (by kernel_rfl)),(Yb1 (by kernel_rfl)),trivial⟩) Zfb Zec rfl rfl Z84 (fun x=>by kernel_rfl)
abbrev Zfc:Shape:={ sl:=[(5,(.ptr 0 [])),(65,(.hole y0)),(66,(.hole (.int .i64))),(67,(.hole (.int .i64)))],bl:=bl_9,ts:=[y0,(.int .i64),(.int .i64),y45],pin:=0 }
abbrev Zed:List (ETag × Shape):=[(.ret,{ sl:=sl_35,bl:=[],ts:=ts_1,pin:=0 }),(.exit 0,{ sl:=[],bl:=[],ts:=[],pin:=0 })]
def Z86 (x:T64):Option (T64 ⊕ ((Bool) ⊕ Unit)) :=
 bif (decide (x.2.2.1 < x.2.1)) then
 bif (inb x.2.2.1 (List.length x.1)) then
 (Z16 x.2.2.2).bind fun r5 =>
 bif (Bool.not (((((List.length r5):Nat):Int) == (0:Int)) == (x.2.2.2.2.2.2.2.2.2 != (0:Int)))) then
 some (.inr (.inl false))
 else
 bif ((((List.length r5):Nat):Int) == (0:Int)) then
 (loop Z80 ((0:Int),(0:Int),x.2.2.2.2.1,(((List.length x.2.2.2.2.1):Nat):Int),(0:Int),x.2.2.2)).bind fun r6 =>
 bif ((r6.2.2.2.2.2.2.2.2 == (1:Int)) == (r6.1 == (((List.length r6.2.2.2.1):Nat):Int))) then
 bif (r6.2.2.2.2.2.2.2.2 != (2:Int)) then
 some (.inr (.inl true))
 else
 bif (decide (r6.2.1 > (0:Int))) then
 some (.inr (.inl ((IntKind.wrap .i64 (r6.1+r6.2.1)) == (((List.length r6.2.2.2.1):Nat):Int))))
 else
 some (.inr (.inl false))
 else
 some (.inr (.inl false))
 else
 (Z3x (r5,(getAt (0:Int) x.1 (toN x.2.2.1)))).bind fun r6 =>
 (Z1a (x.2.2.2,r6)).bind fun r7 =>
 bif (r7.2.2 != (0:Int)) then
 some (.inr (.inl false))
 else
 bif (r7.1.2.2.2.2.2.1 != (IntKind.wrap .i64 (x.2.2.2.2.2.2.2.2.1+(((List.length r7.2.1):Nat):Int)))) then
 some (.inr (.inl false))
 else
 bif (decide ((((List.length r7.1.2.1):Nat):Int) < (((List.length x.2.2.2.2.1):Nat):Int))) then
 some (.inr (.inl false))
 else
 bif (decide ((((List.length r7.1.2.1):Nat):Int) > (IntKind.wrap .i64 ((((List.length x.2.2.2.2.1):Nat):Int)+(1:Int))))) then
 some (.inr (.inl false))
 else
 bif (decide (r6.1 < (0:Int))) then
 some (.inr (.inl false))
 else
 bif (decide (r6.1 ≥ (((List.length x.2.2.2.2.1):Nat):Int))) then
 some (.inr (.inl false))
 else
 bif (inb r6.1 (List.length x.2.2.2.2.1)) then
 bif ((getAt ((0:Int),(0:Int),(0:Int),false) x.2.2.2.2.1 (toN r6.1)).2.2.1 != (0:Int)) then
 some (.inr (.inl false))
 else
 bif (decide ((((List.length r7.2.1):Nat):Int) > (0:Int))) then
 bif (inb (0:Int) (List.length r7.2.1)) then
 bif ((getAt ((0:Int),(0:Int),(0:Int),(0:Int),(0:Int)) r7.2.1 (toN (0:Int))).1 != r6.1) then
 some (.inr (.inl false))
 else
 (loop Z82 (x.1,x.2.1,x.2.2.1,r7.2.1,(((List.length r7.2.1):Nat):Int),(0:Int),x.2.2.2,r6,r7.1,([]:List (Int × Int)))).bind fun r8 =>
 match r8 with
 | .inl y9 =>
 some (.inr (.inl y9))
 | .inr y9 =>
 (loop Z84 (y9.1,y9.2.1,y9.2.2.1,y9.2.2.2.1.2.1,(((List.length y9.2.2.2.1.2.1):Nat):Int),(0:Int),y9.2.2.2.1,y9.2.2.2.2.1,y9.2.2.2.2.2.1,y9.2.2.2.2.2.2)).bind fun r10 =>
 match r10 with
 | .inl y11 =>
 some (.inr (.inl y11))
 | .inr y11 =>
 some (.inl (y11.1,y11.2.1,(IntKind.wrap .i64 (y11.2.2.1+(1:Int))),y11.2.2.2.2))
 else
 none
 else
 (loop Z82 (x.1,x.2.1,x.2.2.1,r7.2.1,(((List.length r7.2.1):Nat):Int),(0:Int),x.2.2.2,r6,r7.1,([]:List (Int × Int)))).bind fun r8 =>
 match r8 with
 | .inl y9 =>
 some (.inr (.inl y9))
 | .inr y9 =>
 (loop Z84 (y9.1,y9.2.1,y9.2.2.1,y9.2.2.2.1.2.1,(((List.length y9.2.2.2.1.2.1):Nat):Int),(0:Int),y9.2.2.2.1,y9.2.2.2.2.1,y9.2.2.2.2.2.1,y9.2.2.2.2.2.2)).bind fun r10 =>
 match r10 with
 | .inl y11 =>
 some (.inr (.inl y11))
 | .inr y11 =>
 some (.inl (y11.1,y11.2.1,(IntKind.wrap .i64 (y11.2.2.1+(1:Int))),y11.2.2.2.2))
 else
 none
 else
 none
 else
 some (.inr (.inr ()))
def Zbm:Ctx:={ tb:=mkTb T2.tbl,fx:=[(13,[],Zp0),(14,[],Znq),(16,[],Zoz),(22,[],Znp),(24,[],Zp2),(23,[],Znr)],sum:=[(0,16,Yb0 Zf9 Zea (loop Z80)),(0,33,Yb0 Zfa Zeb (loop Z82)),(0,40,Yb0 Zfb Zec (loop Z84))],nt:=284,pin:=0,nr:=true,ys:=[] }
theorem Z87:CSound Tryz.prog ⟨284,0,true⟩ (.loop (loopOf 8 Tryz.f4)) (Yb0 Zfc Zed (loop Z86)) :=
 Y8i (C:=Zbm) (ctxOK mixed tbl_ok rfl ⟨Z3u,Z19,Z3s,Z17,Z3y,Z1b,trivial⟩ trivial) (SumOK.of ⟨(Yb2 (d:=.loop (loopOf 16 Tryz.f4)) (by kernel_rfl) Z81),(Yb2 (d:=.loop (loopOf 33 Tryz.f4)) (by kernel_rfl) Z83),(Yb2 (d:=.loop (loopOf 40 Tryz.f4)) (by kernel_rfl) Z85),trivial⟩) Zfc Zed rfl rfl Z86 (fun x=>by kernel_rfl)
def F_plaitlaw12_MachineGoes (x:(T47 × List Int)):Option (Bool) :=
 (Z3t x.1).bind fun r1 =>
 (Z18 r1).bind fun r2 =>
 bif (r2.2.2 != (0:Int)) then
 (Z3r ()).bind fun r3 =>
 bif r3 then
 bif (r2.2.2 == (1:Int)) then
 some ((((List.length r2.2.1):Nat):Int) == (0:Int))
 else
 some false
 else
 some false
 else
 bif ((((List.length r2.2.1):Nat):Int) != (1:Int)) then
 some false
 else
 bif (r2.1.2.2.2.2.2.1 != (1:Int)) then
 some false
 else
 bif ((((List.length r2.1.2.1):Nat):Int) != (1:Int)) then
 some false
 else
 (Z3r ()).bind fun r3 =>
 bif (Bool.not r3) then
 some false
 else
 bif (sub3 (0:Int) (Min.min (((List.length x.2):Nat):Int) (120:Int)) (List.length x.2)) then
 (loop Z86 ((cut x.2 (toN (0:Int)) ((toN (Min.min (((List.length x.2):Nat):Int) (120:Int))) - (toN (0:Int)))),(((List.length (cut x.2 (toN (0:Int)) ((toN (Min.min (((List.length x.2):Nat):Int) (120:Int))) - (toN (0:Int))))):Nat):Int),(0:Int),r2.1)).bind fun r4 =>
 match r4 with
 | .inl y5 =>
 some y5
 | .inr y5 =>
 some true
 else
 none
def Zbi:Ctx:={ tb:=mkTb T2.tbl,fx:=[(13,[],Zp0),(14,[],Znq),(16,[],Zoz),(22,[],Znp),(24,[],Zp2),(23,[],Znr)],sum:=[(0,16,Yb0 Zf9 Zea (loop Z80)),(0,33,Yb0 Zfa Zeb (loop Z82)),(0,40,Yb0 Zfb Zec (loop Z84)),(0,8,Yb0 Zfc Zed (loop Z86))],nt:=284,pin:=0,nr:=true,ys:=[] }
theorem F_plaitlaw12_MachineGoes_ok:Sound Tryz.prog 4 (Spec.pure [y39,y0] [.bool] F_plaitlaw12_MachineGoes) :=
 Sound.pure (C:=Zbi) (fn:=Tryz.f4) (by kernel_rfl) (c:=bodyOf Tryz.f4) (by kernel_rfl) (by decide) (ctxOK mixed tbl_ok rfl ⟨Z3u,Z19,Z3s,Z17,Z3y,Z1b,trivial⟩) (SumOK.of ⟨(Yb2 (d:=.loop (loopOf 16 Tryz.f4)) (by kernel_rfl) Z81),(Yb2 (d:=.loop (loopOf 33 Tryz.f4)) (by kernel_rfl) Z83),(Yb2 (d:=.loop (loopOf 40 Tryz.f4)) (by kernel_rfl) Z85),(Yb2 (d:=.loop (loopOf 8 Tryz.f4)) (by kernel_rfl) Z87),trivial⟩) (by kernel_rfl) rfl _ _ (by decide) _ (fun x=>by kernel_rfl)
end
end Go.Proofs.YthdlpkdojipfhaaGreat.VX.VxM_M
set_option linter.unusedVariables false
set_option maxRecDepth 100000
namespace Go.Proofs.YthdlpkdojipfhaaGreat.VX.VxM_M
open Go.Proofs Go.Proofs.YthdlpkdojipfhaaGreat.VX.T2
noncomputable section
end
end Go.Proofs.YthdlpkdojipfhaaGreat.VX.VxM_M

