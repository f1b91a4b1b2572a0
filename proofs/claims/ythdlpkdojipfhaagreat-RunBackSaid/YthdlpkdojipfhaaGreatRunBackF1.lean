/- Laid for the law RunBack. -/
import Derived.Test.YthdlpkdojipfhaaGreatRunBackF0
set_option linter.unusedVariables false
set_option maxRecDepth 100000
namespace Go.Proofs.YthdlpkdojipfhaaGreat.VX.VxM_M
open Go.Proofs Go.Proofs.YthdlpkdojipfhaaGreat.VX.T2
noncomputable section
abbrev Zgs:Shape:={ sl:=sl_27,bl:=[],ts:=[y40,y5],pin:=0 }
abbrev Zkn:Shape:={ sl:=sl_28,bl:=[],ts:=[y40,y30,(.int .i64)],pin:=0 }
def Zc (x:T45):Option T48 :=
 (Za x.1).bind fun r18 =>
 bif (Bool.not r18) then
 some (((0:Int),false,((0:Int),(0:Int),([]:List Int),(0:Int)),(0:Int),(0:Int),([]:List T7),([]:List T7)),((0:Int),(0:Int),((0:Int),(0:Int),(0:Int)),(0:Int)),(1:Int))
 else
 (Ze x.2).bind fun r19 =>
 bif (Bool.not r19) then
 some (((0:Int),false,((0:Int),(0:Int),([]:List Int),(0:Int)),(0:Int),(0:Int),([]:List T7),([]:List T7)),((0:Int),(0:Int),((0:Int),(0:Int),(0:Int)),(0:Int)),(1:Int))
 else
 (Zq (x.1.2.2.2.2.2.2,x.1,x.2.1)).bind fun r20 =>
 (Zl r20.2).bind fun r21 =>
 bif r21.1 then
 some (x.1,((0:Int),(0:Int),((Int.negSucc 0),(0:Int),(0:Int)),(0:Int)),(0:Int))
 else
 bif r20.2.1.2.1 then
 some (x.1,((3:Int),(0:Int),((Int.negSucc 0),(0:Int),(0:Int)),(0:Int)),(0:Int))
 else
 bif (r20.1.1 != (Int.negSucc 0)) then
 bif (r20.2.1.2.2.2.1 == (1048576:Int)) then
 some (((0:Int),false,((0:Int),(0:Int),([]:List Int),(0:Int)),(0:Int),(0:Int),([]:List T7),([]:List T7)),((0:Int),(0:Int),((0:Int),(0:Int),(0:Int)),(0:Int)),(5:Int))
 else
 bif (r20.1.1 != (Int.negSucc 0)) then
 (Zo (r20.1.1,r20.2)).bind fun r22 =>
 (Zs r22).bind fun r23 =>
 some (r23.2.1,((1:Int),r23.1,r20.1,r23.1),(0:Int))
 else
 (Zi r20.2).bind fun r22 =>
 bif (Bool.not r22.1) then
 (Zw r20.2).bind fun r23 =>
 some (r23.2.1,((1:Int),r23.1,r20.1,(0:Int)),(0:Int))
 else
 (Z7n (r20.2.1.2.2.2.2.2.1,x.2)).bind fun r23 =>
 bif (r23.2 != (0:Int)) then
 some (((0:Int),false,((0:Int),(0:Int),([]:List Int),(0:Int)),(0:Int),(0:Int),([]:List T7),([]:List T7)),((0:Int),(0:Int),((0:Int),(0:Int),(0:Int)),(0:Int)),r23.2)
 else
 some ((r20.2.1.1,r20.2.1.2.1,r20.2.1.2.2.1,r20.2.1.2.2.2.1,r20.2.1.2.2.2.2.1,r23.1,r20.2.1.2.2.2.2.2.2),((0:Int),(0:Int),r20.1,(0:Int)),(0:Int))
 else
 (Zi r20.2).bind fun r22 =>
 bif (Bool.not r22.1) then
 bif (r20.2.1.2.2.2.1 == (1048576:Int)) then
 some (((0:Int),false,((0:Int),(0:Int),([]:List Int),(0:Int)),(0:Int),(0:Int),([]:List T7),([]:List T7)),((0:Int),(0:Int),((0:Int),(0:Int),(0:Int)),(0:Int)),(5:Int))
 else
 bif (r20.1.1 != (Int.negSucc 0)) then
 (Zo (r20.1.1,r20.2)).bind fun r23 =>
 (Zs r23).bind fun r24 =>
 some (r24.2.1,((1:Int),r24.1,r20.1,r24.1),(0:Int))
 else
 (Zi r20.2).bind fun r23 =>
 bif (Bool.not r23.1) then
 (Zw r20.2).bind fun r24 =>
 some (r24.2.1,((1:Int),r24.1,r20.1,(0:Int)),(0:Int))
 else
 (Z7n (r20.2.1.2.2.2.2.2.1,x.2)).bind fun r24 =>
 bif (r24.2 != (0:Int)) then
 some (((0:Int),false,((0:Int),(0:Int),([]:List Int),(0:Int)),(0:Int),(0:Int),([]:List T7),([]:List T7)),((0:Int),(0:Int),((0:Int),(0:Int),(0:Int)),(0:Int)),r24.2)
 else
 some ((r20.2.1.1,r20.2.1.2.1,r20.2.1.2.2.1,r20.2.1.2.2.2.1,r20.2.1.2.2.2.2.1,r24.1,r20.2.1.2.2.2.2.2.2),((0:Int),(0:Int),r20.1,(0:Int)),(0:Int))
 else
 bif (r20.1.1 != (Int.negSucc 0)) then
 (Zo (r20.1.1,r20.2)).bind fun r23 =>
 (Zs r23).bind fun r24 =>
 some (r24.2.1,((1:Int),r24.1,r20.1,r24.1),(0:Int))
 else
 (Zi r20.2).bind fun r23 =>
 bif (Bool.not r23.1) then
 (Zw r20.2).bind fun r24 =>
 some (r24.2.1,((1:Int),r24.1,r20.1,(0:Int)),(0:Int))
 else
 (Z7n (r20.2.1.2.2.2.2.2.1,x.2)).bind fun r24 =>
 bif (r24.2 != (0:Int)) then
 some (((0:Int),false,((0:Int),(0:Int),([]:List Int),(0:Int)),(0:Int),(0:Int),([]:List T7),([]:List T7)),((0:Int),(0:Int),((0:Int),(0:Int),(0:Int)),(0:Int)),r24.2)
 else
 some ((r20.2.1.1,r20.2.1.2.1,r20.2.1.2.2.1,r20.2.1.2.2.2.1,r20.2.1.2.2.2.2.1,r24.1,r20.2.1.2.2.2.2.2.2),((0:Int),(0:Int),r20.1,(0:Int)),(0:Int))
abbrev Zoi:=Spec.shp Zgs Zkn Zc
def Za2:Ctx:={ tb:=mkTb T2.tbl,fx:=[(112,[],Zoh),(206,[],Zoj),(167,[],Zoo),(165,[],Spec.shpR Zgw Zkr Zl),(205,[],Zon),(209,[],Zop),(166,[],Spec.shpR Zgv Zkq Zi),(208,[],Zor),(171,[],Zs1)],sum:=[],nt:=128,pin:=0,nr:=true,ys:=[] }
theorem Zd:Sound Tryz.prog 170 (Zoi) :=
 Sound.shp (C:=Za2) (fn:=Tryz.f170) (by kernel_rfl) (c:=bodyOf Tryz.f170) (by kernel_rfl) (by decide) (ctxOK mixed tbl_ok rfl ⟨Zb,Zf,Zr,Zn,Zp,Zt,Zk,Zx,Z7o,trivial⟩ trivial) (SumOK.of trivial) (by kernel_rfl) Zgs Zkn rfl (by decide) (by decide) rfl (by decide) rfl Zc (fun x=>by kernel_rfl)
abbrev Zj5:Shape:={ sl:=[(0,(.hole y21))],bl:=[],ts:=[y21],pin:=0 }
abbrev Zn0:Shape:={ sl:=[(0,(.hole y21)),(1,(.hole (.int .i64))),(2,(.hole (.int .i64)))],bl:=[],ts:=[y21,(.int .i64),(.int .i64)],pin:=0 }
def Z57 (x:(T16)):Option (T16 × Int × Int) :=
 (Z5b x).bind fun r25 =>
 bif (Bool.not r25) then
 some (((0:Int),(0:Int),([]:List Int),(0:Int)),(0:Int),(1:Int))
 else
 bif (x.2.2.2 == (0:Int)) then
 some (((0:Int),(0:Int),([]:List Int),(0:Int)),(0:Int),(4:Int))
 else
 (Z5h (x,(0:Int))).bind fun r26 =>
 bif (inb r26 (List.length x.2.2.1)) then
 (Z5h (x,(1:Int))).bind fun r27 =>
 some ((x.1,r27,x.2.2.1,(IntKind.wrap .i64 (x.2.2.2 - (1:Int)))),(getAt (0:Int) x.2.2.1 (toN r26)),(0:Int))
 else
 none
abbrev Zqu:=Spec.shp Zj5 Zn0 Z57
def Zcz:Ctx:={ tb:=mkTb T2.tbl,fx:=[(196,[],Zqw),(232,[],Zqz)],sum:=[],nt:=34,pin:=0,nr:=true,ys:=[] }
theorem Z58:Sound Tryz.prog 234 (Zqu) :=
 Sound.shp (C:=Zcz) (fn:=Tryz.f234) (by kernel_rfl) (c:=bodyOf Tryz.f234) (by kernel_rfl) (by decide) (ctxOK mixed tbl_ok rfl ⟨Z5c,Z5k,trivial⟩ trivial) (SumOK.of trivial) (by kernel_rfl) Zj5 Zn0 rfl (by decide) (by decide) rfl (by decide) rfl Z57 (fun x=>by kernel_rfl)
abbrev Zh0:Shape:={ sl:=sl_15,bl:=bl_12,ts:=[y42],pin:=0 }
abbrev Zkv:Shape:={ sl:=sl_2,bl:=bl_12,ts:=[(.int .i64),y42],pin:=1 }
def Zu (x:(T46)):Option (Int × T46) :=
 (Z57 x.1.2.2.1).bind fun r24 =>
 some (r24.2.1,(x.1.1,x.1.2.1,r24.1,x.1.2.2.2.1,(IntKind.wrap .i64 (x.1.2.2.2.2.1+(1:Int))),x.1.2.2.2.2.2),x.2)
abbrev Zoq:=Spec.shp Zh0 Zkv Zu
def Zab:Ctx:={ tb:=mkTb T2.tbl,fx:=[(234,[],Zqu)],sum:=[],nt:=28,pin:=1,nr:=true,ys:=[] }
theorem Zv:Sound Tryz.prog 207 (Zoq) :=
 Sound.shp (C:=Zab) (fn:=Tryz.f207) (by kernel_rfl) (c:=bodyOf Tryz.f207) (by kernel_rfl) (by decide) (ctxOK mixed tbl_ok rfl ⟨Z58,trivial⟩ trivial) (SumOK.of trivial) (by kernel_rfl) Zh0 Zkv rfl (by decide) (by decide) rfl (by decide) rfl Zu (fun x=>by kernel_rfl)
abbrev Zgq:Shape:={ sl:=sl_27,bl:=[],ts:=[y40,y5],pin:=0 }
abbrev Zkl:Shape:={ sl:=sl_28,bl:=[],ts:=[y40,y30,(.int .i64)],pin:=0 }
def Z8 (x:T45):Option T48 :=
 (Za x.1).bind fun r18 =>
 bif (Bool.not r18) then
 some (((0:Int),false,((0:Int),(0:Int),([]:List Int),(0:Int)),(0:Int),(0:Int),([]:List T7),([]:List T7)),((0:Int),(0:Int),((0:Int),(0:Int),(0:Int)),(0:Int)),(1:Int))
 else
 (Ze x.2).bind fun r19 =>
 bif (Bool.not r19) then
 some (((0:Int),false,((0:Int),(0:Int),([]:List Int),(0:Int)),(0:Int),(0:Int),([]:List T7),([]:List T7)),((0:Int),(0:Int),((0:Int),(0:Int),(0:Int)),(0:Int)),(1:Int))
 else
 (Zq (x.1.2.2.2.2.2.1,x.1,x.2.1)).bind fun r20 =>
 bif (r20.1.1 != (Int.negSucc 0)) then
 bif (r20.2.1.2.2.2.1 == (1048576:Int)) then
 some (((0:Int),false,((0:Int),(0:Int),([]:List Int),(0:Int)),(0:Int),(0:Int),([]:List T7),([]:List T7)),((0:Int),(0:Int),((0:Int),(0:Int),(0:Int)),(0:Int)),(5:Int))
 else
 (Zo (r20.1.1,r20.2)).bind fun r21 =>
 (Zl r21).bind fun r22 =>
 bif r22.1 then
 some (x.1,((0:Int),(0:Int),r20.1,(0:Int)),(0:Int))
 else
 bif (decide (r21.1.2.2.1.2.2.2 > (0:Int))) then
 (Zu r21).bind fun r23 =>
 bif (r20.1.1 != (Int.negSucc 0)) then
 (Zw r23.2).bind fun r24 =>
 some (r24.2.1,((1:Int),r23.1,r20.1,r24.1),(0:Int))
 else
 some (r23.2.1,((1:Int),r23.1,r20.1,(0:Int)),(0:Int))
 else
 bif (r20.1.1 != (Int.negSucc 0)) then
 (Zs r21).bind fun r23 =>
 some (r23.2.1,((1:Int),r23.1,r20.1,r23.1),(0:Int))
 else
 bif r21.1.2.1 then
 some (x.1,((2:Int),(0:Int),r20.1,(0:Int)),(0:Int))
 else
 (Z7n (r21.1.2.2.2.2.2.2,x.2)).bind fun r23 =>
 bif (r23.2 != (0:Int)) then
 some (((0:Int),false,((0:Int),(0:Int),([]:List Int),(0:Int)),(0:Int),(0:Int),([]:List T7),([]:List T7)),((0:Int),(0:Int),((0:Int),(0:Int),(0:Int)),(0:Int)),r23.2)
 else
 some ((r21.1.1,r21.1.2.1,r21.1.2.2.1,r21.1.2.2.2.1,r21.1.2.2.2.2.1,r21.1.2.2.2.2.2.1,r23.1),((0:Int),(0:Int),r20.1,(0:Int)),(0:Int))
 else
 (Zl r20.2).bind fun r21 =>
 bif r21.1 then
 some (x.1,((0:Int),(0:Int),r20.1,(0:Int)),(0:Int))
 else
 bif (decide (r20.2.1.2.2.1.2.2.2 > (0:Int))) then
 (Zu r20.2).bind fun r22 =>
 bif (r20.1.1 != (Int.negSucc 0)) then
 (Zw r22.2).bind fun r23 =>
 some (r23.2.1,((1:Int),r22.1,r20.1,r23.1),(0:Int))
 else
 some (r22.2.1,((1:Int),r22.1,r20.1,(0:Int)),(0:Int))
 else
 bif (r20.1.1 != (Int.negSucc 0)) then
 (Zs r20.2).bind fun r22 =>
 some (r22.2.1,((1:Int),r22.1,r20.1,r22.1),(0:Int))
 else
 bif r20.2.1.2.1 then
 some (x.1,((2:Int),(0:Int),r20.1,(0:Int)),(0:Int))
 else
 (Z7n (r20.2.1.2.2.2.2.2.2,x.2)).bind fun r22 =>
 bif (r22.2 != (0:Int)) then
 some (((0:Int),false,((0:Int),(0:Int),([]:List Int),(0:Int)),(0:Int),(0:Int),([]:List T7),([]:List T7)),((0:Int),(0:Int),((0:Int),(0:Int),(0:Int)),(0:Int)),r22.2)
 else
 some ((r20.2.1.1,r20.2.1.2.1,r20.2.1.2.2.1,r20.2.1.2.2.2.1,r20.2.1.2.2.2.2.1,r20.2.1.2.2.2.2.2.1,r22.1),((0:Int),(0:Int),r20.1,(0:Int)),(0:Int))
abbrev Zog:=Spec.shp Zgq Zkl Z8
def Za0:Ctx:={ tb:=mkTb T2.tbl,fx:=[(112,[],Zoh),(206,[],Zoj),(167,[],Zoo),(205,[],Zon),(165,[],Spec.shpR Zgw Zkr Zl),(207,[],Zoq),(208,[],Zor),(209,[],Zop),(171,[],Zs1)],sum:=[],nt:=130,pin:=0,nr:=true,ys:=[] }
theorem Z9:Sound Tryz.prog 169 (Zog) :=
 Sound.shp (C:=Za0) (fn:=Tryz.f169) (by kernel_rfl) (c:=bodyOf Tryz.f169) (by kernel_rfl) (by decide) (ctxOK mixed tbl_ok rfl ⟨Zb,Zf,Zr,Zp,Zn,Zv,Zx,Zt,Z7o,trivial⟩ trivial) (SumOK.of trivial) (by kernel_rfl) Zgq Zkl rfl (by decide) (by decide) rfl (by decide) rfl Z8 (fun x=>by kernel_rfl)
abbrev Zht:Shape:={ sl:=sl_29,bl:=bl_2,ts:=[y5,(.int .i64),.bool,y39,y4,y18,y41,y19,y26,y27],pin:=0 }
abbrev Zlo:Shape:={ sl:=[(0,(.hole y30))],bl:=bl_2,ts:=[y30,y39,y4,y18,y41,y19,y26,y27],pin:=1 }
def Z2g (x:(T7 × Int × Bool × T47 × (Int × Int) × List (T17) × List T43 × List (T18) × List T29 × List (T20))):Option ((Int × T23) × T47 × (Int × Int) × List (T17) × List T43 × List (T18) × List T29 × List (T20)) :=
 bif x.2.2.1 then
 bif (inb x.2.1 (List.length x.2.2.2.2.2.2.1)) then
 (Zc ((getAt ((0:Int),false,((0:Int),(0:Int),([]:List Int),(0:Int)),(0:Int),(0:Int),([]:List T7),([]:List T7)) x.2.2.2.2.2.2.1 (toN x.2.1)),x.1)).bind fun r17 =>
 bif (inb x.2.1 (List.length x.2.2.2.2.2.2.1)) then
 some (r17.2.1,x.2.2.2.1,x.2.2.2.2.1,x.2.2.2.2.2.1,(List.set x.2.2.2.2.2.2.1 (toN x.2.1) r17.1),x.2.2.2.2.2.2.2.1,x.2.2.2.2.2.2.2.2.1,x.2.2.2.2.2.2.2.2.2)
 else
 none
 else
 none
 else
 bif (inb x.2.1 (List.length x.2.2.2.2.2.2.1)) then
 (Z8 ((getAt ((0:Int),false,((0:Int),(0:Int),([]:List Int),(0:Int)),(0:Int),(0:Int),([]:List T7),([]:List T7)) x.2.2.2.2.2.2.1 (toN x.2.1)),x.1)).bind fun r17 =>
 bif (inb x.2.1 (List.length x.2.2.2.2.2.2.1)) then
 some (r17.2.1,x.2.2.2.1,x.2.2.2.2.1,x.2.2.2.2.2.1,(List.set x.2.2.2.2.2.2.1 (toN x.2.1) r17.1),x.2.2.2.2.2.2.2.1,x.2.2.2.2.2.2.2.2.1,x.2.2.2.2.2.2.2.2.2)
 else
 none
 else
 none
abbrev Zpj:=Spec.shp Zht Zlo Z2g
def Zbc:Ctx:={ tb:=mkTb T2.tbl,fx:=[(170,[],Zoi),(169,[],Zog)],sum:=[],nt:=38,pin:=1,nr:=true,ys:=[] }
theorem Z2h:Sound Tryz.prog 124 (Zpj) :=
 Sound.shp (C:=Zbc) (fn:=Tryz.f124) (by kernel_rfl) (c:=bodyOf Tryz.f124) (by kernel_rfl) (by decide) (ctxOK mixed tbl_ok rfl ⟨Zd,Z9,trivial⟩ trivial) (SumOK.of trivial) (by kernel_rfl) Zht Zlo rfl (by decide) (by decide) rfl (by decide) rfl Z2g (fun x=>by kernel_rfl)
abbrev Zi7:Shape:={ sl:=sl_25,bl:=bl_2,ts:=ts_10,pin:=0 }
abbrev Zm2:Shape:={ sl:=[],bl:=bl_2,ts:=ts_11,pin:=1 }
def Z39 (x:T58):Option T57 :=
 bif (inb x.1 (List.length x.2.2.2.1)) then
 some (x.2.1,x.2.2.1,(List.set x.2.2.2.1 (toN x.1) ((getAt ((0:Int),(0:Int),(0:Int),false) x.2.2.2.1 (toN x.1)).1,(getAt ((0:Int),(0:Int),(0:Int),false) x.2.2.2.1 (toN x.1)).2.1,(1:Int),(getAt ((0:Int),(0:Int),(0:Int),false) x.2.2.2.1 (toN x.1)).2.2.2)),x.2.2.2.2.1,x.2.2.2.2.2.1,x.2.2.2.2.2.2.1,x.2.2.2.2.2.2.2)
 else
 none
abbrev Zpx:=Spec.shp Zi7 Zm2 Z39
def Zbs:Ctx:={ tb:=mkTb T2.tbl,fx:=[],sum:=[],nt:=12,pin:=1,nr:=true,ys:=[] }
theorem Z3a:Sound Tryz.prog 125 (Zpx) :=
 Sound.shp (C:=Zbs) (fn:=Tryz.f125) (by kernel_rfl) (c:=bodyOf Tryz.f125) (by kernel_rfl) (by decide) (ctxOK mixed tbl_ok rfl trivial trivial) (SumOK.of trivial) (by kernel_rfl) Zi7 Zm2 rfl (by decide) (by decide) rfl (by decide) rfl Z39 (fun x=>by kernel_rfl)
abbrev Zgn:Shape:={ sl:=sl_13,bl:=[],ts:=[y40,(.int .i64)],pin:=0 }
abbrev Zki:Shape:={ sl:=sl_13,bl:=[],ts:=[y40,(.int .i64)],pin:=0 }
def Z2 (x:T46):Option T46 :=
 (Za x.1).bind fun r23 =>
 bif (Bool.not r23) then
 some (((0:Int),false,((0:Int),(0:Int),([]:List Int),(0:Int)),(0:Int),(0:Int),([]:List T7),([]:List T7)),(1:Int))
 else
 bif (decide (x.2 < (0:Int))) then
 some (((0:Int),false,((0:Int),(0:Int),([]:List Int),(0:Int)),(0:Int),(0:Int),([]:List T7),([]:List T7)),(1:Int))
 else
 (Zo (x.2,x.1,x.2)).bind fun r24 =>
 some (r24.1,(0:Int))
abbrev Zod:=Spec.shp Zgn Zki Z2
def Z9x:Ctx:={ tb:=mkTb T2.tbl,fx:=[(112,[],Zoh),(205,[],Zon)],sum:=[],nt:=26,pin:=0,nr:=true,ys:=[] }
theorem Z3:Sound Tryz.prog 168 (Zod) :=
 Sound.shp (C:=Z9x) (fn:=Tryz.f168) (by kernel_rfl) (c:=bodyOf Tryz.f168) (by kernel_rfl) (by decide) (ctxOK mixed tbl_ok rfl ⟨Zb,Zp,trivial⟩ trivial) (SumOK.of trivial) (by kernel_rfl) Zgn Zki rfl (by decide) (by decide) rfl (by decide) rfl Z2 (fun x=>by kernel_rfl)
abbrev Zfv:Shape:={ sl:=[(0,(.ptr 0 [])),(6,(.ptr 1 [])),(98,(.sl 2)),(99,(.hole (.int .i64))),(100,(.hole (.int .i64)))],bl:=[.var (.pr (.pr (.hole y39) (.pr (.sl 3) (.pr (.sl 2) (.pr (.sl 4) (.pr (.sl 5) (.hole y4)))))) (.sl 6)),.var (.hole y5),.row y40,.row y12,.row y15,.row y23,.row y24],ts:=[(.int .i64),(.int .i64),y39,y4,y5,y41,y18,y19,y26,y27],pin:=1 }
abbrev Zex:List (ETag × Shape):=[(.exit 1,{ sl:=[],bl:=bl_2,ts:=ts_11,pin:=1 })]
def Z8b (x:(Int × Int × T47 × (Int × Int) × T7 × List T43 × List (T17) × List (T18) × List T29 × List (T20))):Option ((Int × Int × T47 × (Int × Int) × T7 × List T43 × List (T17) × List (T18) × List T29 × List (T20)) ⊕ (T57)) :=
 bif (decide (x.2.1 < x.1)) then
 bif (inb x.2.1 (List.length x.2.2.2.2.2.1)) then
 (Z2 ((getAt ((0:Int),false,((0:Int),(0:Int),([]:List Int),(0:Int)),(0:Int),(0:Int),([]:List T7),([]:List T7)) x.2.2.2.2.2.1 (toN x.2.1)),x.2.2.2.2.1.1)).bind fun r22 =>
 bif (inb x.2.1 (List.length x.2.2.2.2.2.1)) then
 some (.inl (x.1,(IntKind.wrap .i64 (x.2.1+(1:Int))),x.2.2.1,x.2.2.2.1,x.2.2.2.2.1,(List.set x.2.2.2.2.2.1 (toN x.2.1) r22.1),x.2.2.2.2.2.2.1,x.2.2.2.2.2.2.2.1,x.2.2.2.2.2.2.2.2.1,x.2.2.2.2.2.2.2.2.2))
 else
 none
 else
 none
 else
 some (.inr (x.2.2.1,x.2.2.2.1,x.2.2.2.2.2.2.1,x.2.2.2.2.2.1,x.2.2.2.2.2.2.2.1,x.2.2.2.2.2.2.2.2.1,x.2.2.2.2.2.2.2.2.2))
def Zb2:Ctx:={ tb:=mkTb T2.tbl,fx:=[(78,[],Zpe),(40,[],Zpv),(120,[],Zpc),(168,[],Zod)],sum:=[],nt:=120,pin:=1,nr:=true,ys:=[] }
theorem Z8c:CSound Tryz.prog ⟨120,1,true⟩ (.loop (loopOf 13 Tryz.f123)) (Yaz Zfv Zex (loop Z8b)) :=
 Y8f (C:=Zb2) (ctxOK mixed tbl_ok rfl ⟨Z27,Z36,Z23,Z3,trivial⟩ trivial) (SumOK.of trivial) Zfv Zex rfl rfl Z8b (fun x=>by kernel_rfl)
abbrev Zhk:Shape:={ sl:=[(0,(.ptr 0 [])),(1,(.hole y5)),(2,(.hole (.int .i64))),(3,(.hole (.int .i64))),(4,(.hole (.int .i64)))],bl:=bl_2,ts:=[y5,(.int .i64),(.int .i64),(.int .i64),y39,y4,y18,y41,y19,y26,y27],pin:=0 }
abbrev Zlf:Shape:={ sl:=[],bl:=bl_2,ts:=ts_11,pin:=1 }
def Z1y (x:(T7 × Int × Int × Int × T47 × (Int × Int) × List (T17) × List T43 × List (T18) × List T29 × List (T20))):Option T57 :=
 (Z26 (x.1.1,x.2.2.2.2.1,x.2.2.2.2.2.1,x.2.2.2.2.2.2.1,x.2.2.2.2.2.2.2.1,x.2.2.2.2.2.2.2.2.1,x.2.2.2.2.2.2.2.2.2.1,x.2.2.2.2.2.2.2.2.2.2)).bind fun r18 =>
 bif (r18.1.1 == (1:Int)) then
 (Z35 (x.1.1,(3:Int),x.2.1,x.2.2.1,x.1.2.2,r18.2.1,r18.2.2.1,r18.2.2.2.1,r18.2.2.2.2.1,r18.2.2.2.2.2.1,r18.2.2.2.2.2.2.1,r18.2.2.2.2.2.2.2)).bind fun r19 =>
 (Z22 (x.1.1,r19.2.1,r19.2.2.1,r19.2.2.2.1,r19.2.2.2.2.1,r19.2.2.2.2.2.1,r19.2.2.2.2.2.2.1,r19.2.2.2.2.2.2.2)).bind fun r20 =>
 (loop Z8b ((((List.length r20.2.2.2.1):Nat):Int),(0:Int),r20.1,r20.2.1,x.1,r20.2.2.2.1,r20.2.2.1,r20.2.2.2.2.1,r20.2.2.2.2.2.1,r20.2.2.2.2.2.2)).bind fun r21 =>
 some (r21.1,r21.2.1,r21.2.2.1,r21.2.2.2.1,r21.2.2.2.2.1,r21.2.2.2.2.2.1,r21.2.2.2.2.2.2)
 else
 bif (r18.1.1 == (4:Int)) then
 bif (inb r18.1.2.1 (List.length r18.2.1.2.2.2.2.1)) then
 bif (inb x.1.2.1 (List.length (getAt (([]:List T0),false) r18.2.1.2.2.2.2.1 (toN r18.1.2.1)).1)) then
 bif (getAt (false,(0:Int)) (getAt (([]:List T0),false) r18.2.1.2.2.2.2.1 (toN r18.1.2.1)).1 (toN x.1.2.1)).1 then
 (Z35 (x.1.1,(3:Int),x.2.1,x.2.2.1,x.1.2.2,r18.2.1,r18.2.2.1,r18.2.2.2.1,r18.2.2.2.2.1,r18.2.2.2.2.2.1,r18.2.2.2.2.2.2.1,r18.2.2.2.2.2.2.2)).bind fun r19 =>
 (Z22 (x.1.1,r19.2.1,r19.2.2.1,r19.2.2.2.1,r19.2.2.2.2.1,r19.2.2.2.2.2.1,r19.2.2.2.2.2.2.1,r19.2.2.2.2.2.2.2)).bind fun r20 =>
 (loop Z8b ((((List.length r20.2.2.2.1):Nat):Int),(0:Int),r20.1,r20.2.1,x.1,r20.2.2.2.1,r20.2.2.1,r20.2.2.2.2.1,r20.2.2.2.2.2.1,r20.2.2.2.2.2.2)).bind fun r21 =>
 some (r21.1,r21.2.1,r21.2.2.1,r21.2.2.2.1,r21.2.2.2.2.1,r21.2.2.2.2.2.1,r21.2.2.2.2.2.2)
 else
 bif (x.2.2.2.1 == (2:Int)) then
 (Z35 (x.1.1,(6:Int),x.2.1,(0:Int),x.1.2.2,r18.2.1,r18.2.2.1,r18.2.2.2.1,r18.2.2.2.2.1,r18.2.2.2.2.2.1,r18.2.2.2.2.2.2.1,r18.2.2.2.2.2.2.2)).bind fun r19 =>
 bif (inb x.1.1 (List.length r19.2.2.2.1)) then
 (Z22 (x.1.1,r19.2.1,r19.2.2.1,(List.set r19.2.2.2.1 (toN x.1.1) ((getAt ((0:Int),(0:Int),(0:Int),false) r19.2.2.2.1 (toN x.1.1)).1,(getAt ((0:Int),(0:Int),(0:Int),false) r19.2.2.2.1 (toN x.1.1)).2.1,(getAt ((0:Int),(0:Int),(0:Int),false) r19.2.2.2.1 (toN x.1.1)).2.2.1,true)),r19.2.2.2.2.1,r19.2.2.2.2.2.1,r19.2.2.2.2.2.2.1,r19.2.2.2.2.2.2.2)).bind fun r20 =>
 (loop Z8b ((((List.length r20.2.2.2.1):Nat):Int),(0:Int),r20.1,r20.2.1,x.1,r20.2.2.2.1,r20.2.2.1,r20.2.2.2.2.1,r20.2.2.2.2.2.1,r20.2.2.2.2.2.2)).bind fun r21 =>
 some (r21.1,r21.2.1,r21.2.2.1,r21.2.2.2.1,r21.2.2.2.2.1,r21.2.2.2.2.2.1,r21.2.2.2.2.2.2)
 else
 none
 else
 (Z35 (x.1.1,(5:Int),x.2.1,x.2.2.1,x.1.2.2,r18.2.1,r18.2.2.1,r18.2.2.2.1,r18.2.2.2.2.1,r18.2.2.2.2.2.1,r18.2.2.2.2.2.2.1,r18.2.2.2.2.2.2.2)).bind fun r19 =>
 bif (inb x.1.1 (List.length r19.2.2.2.1)) then
 (Z22 (x.1.1,r19.2.1,r19.2.2.1,(List.set r19.2.2.2.1 (toN x.1.1) ((getAt ((0:Int),(0:Int),(0:Int),false) r19.2.2.2.1 (toN x.1.1)).1,(getAt ((0:Int),(0:Int),(0:Int),false) r19.2.2.2.1 (toN x.1.1)).2.1,(getAt ((0:Int),(0:Int),(0:Int),false) r19.2.2.2.1 (toN x.1.1)).2.2.1,false)),r19.2.2.2.2.1,r19.2.2.2.2.2.1,r19.2.2.2.2.2.2.1,r19.2.2.2.2.2.2.2)).bind fun r20 =>
 (loop Z8b ((((List.length r20.2.2.2.1):Nat):Int),(0:Int),r20.1,r20.2.1,x.1,r20.2.2.2.1,r20.2.2.1,r20.2.2.2.2.1,r20.2.2.2.2.2.1,r20.2.2.2.2.2.2)).bind fun r21 =>
 some (r21.1,r21.2.1,r21.2.2.1,r21.2.2.2.1,r21.2.2.2.2.1,r21.2.2.2.2.2.1,r21.2.2.2.2.2.2)
 else
 none
 else
 none
 else
 none
 else
 bif (x.2.2.2.1 == (2:Int)) then
 (Z35 (x.1.1,(6:Int),x.2.1,(0:Int),x.1.2.2,r18.2.1,r18.2.2.1,r18.2.2.2.1,r18.2.2.2.2.1,r18.2.2.2.2.2.1,r18.2.2.2.2.2.2.1,r18.2.2.2.2.2.2.2)).bind fun r19 =>
 bif (inb x.1.1 (List.length r19.2.2.2.1)) then
 (Z22 (x.1.1,r19.2.1,r19.2.2.1,(List.set r19.2.2.2.1 (toN x.1.1) ((getAt ((0:Int),(0:Int),(0:Int),false) r19.2.2.2.1 (toN x.1.1)).1,(getAt ((0:Int),(0:Int),(0:Int),false) r19.2.2.2.1 (toN x.1.1)).2.1,(getAt ((0:Int),(0:Int),(0:Int),false) r19.2.2.2.1 (toN x.1.1)).2.2.1,true)),r19.2.2.2.2.1,r19.2.2.2.2.2.1,r19.2.2.2.2.2.2.1,r19.2.2.2.2.2.2.2)).bind fun r20 =>
 (loop Z8b ((((List.length r20.2.2.2.1):Nat):Int),(0:Int),r20.1,r20.2.1,x.1,r20.2.2.2.1,r20.2.2.1,r20.2.2.2.2.1,r20.2.2.2.2.2.1,r20.2.2.2.2.2.2)).bind fun r21 =>
 some (r21.1,r21.2.1,r21.2.2.1,r21.2.2.2.1,r21.2.2.2.2.1,r21.2.2.2.2.2.1,r21.2.2.2.2.2.2)
 else
 none
 else
 (Z35 (x.1.1,(5:Int),x.2.1,x.2.2.1,x.1.2.2,r18.2.1,r18.2.2.1,r18.2.2.2.1,r18.2.2.2.2.1,r18.2.2.2.2.2.1,r18.2.2.2.2.2.2.1,r18.2.2.2.2.2.2.2)).bind fun r19 =>
 bif (inb x.1.1 (List.length r19.2.2.2.1)) then
 (Z22 (x.1.1,r19.2.1,r19.2.2.1,(List.set r19.2.2.2.1 (toN x.1.1) ((getAt ((0:Int),(0:Int),(0:Int),false) r19.2.2.2.1 (toN x.1.1)).1,(getAt ((0:Int),(0:Int),(0:Int),false) r19.2.2.2.1 (toN x.1.1)).2.1,(getAt ((0:Int),(0:Int),(0:Int),false) r19.2.2.2.1 (toN x.1.1)).2.2.1,false)),r19.2.2.2.2.1,r19.2.2.2.2.2.1,r19.2.2.2.2.2.2.1,r19.2.2.2.2.2.2.2)).bind fun r20 =>
 (loop Z8b ((((List.length r20.2.2.2.1):Nat):Int),(0:Int),r20.1,r20.2.1,x.1,r20.2.2.2.1,r20.2.2.1,r20.2.2.2.2.1,r20.2.2.2.2.2.1,r20.2.2.2.2.2.2)).bind fun r21 =>
 some (r21.1,r21.2.1,r21.2.2.1,r21.2.2.2.1,r21.2.2.2.2.1,r21.2.2.2.2.2.1,r21.2.2.2.2.2.2)
 else
 none
abbrev Zpa:=Spec.shp Zhk Zlf Z1y
def Zb1:Ctx:={ tb:=mkTb T2.tbl,fx:=[(78,[],Zpe),(40,[],Zpv),(120,[],Zpc),(168,[],Zod)],sum:=[(0,13,Yaz Zfv Zex (loop Z8b))],nt:=120,pin:=1,nr:=true,ys:=[] }
theorem Z1z:Sound Tryz.prog 123 (Zpa) :=
 Sound.shp (C:=Zb1) (fn:=Tryz.f123) (by kernel_rfl) (c:=bodyOf Tryz.f123) (by kernel_rfl) (by decide) (ctxOK mixed tbl_ok rfl ⟨Z27,Z36,Z23,Z3,trivial⟩ trivial) (SumOK.of ⟨(Yb1 (d:=.loop (loopOf 13 Tryz.f123)) (by kernel_rfl) Z8c),trivial⟩) (by kernel_rfl) Zhk Zlf rfl (by decide) (by decide) rfl (by decide) rfl Z1y (fun x=>by kernel_rfl)
abbrev Zhv:Shape:={ sl:=sl_29,bl:=bl_2,ts:=[y5,(.int .i64),.bool,y39,y4,y18,y41,y19,y26,y27],pin:=0 }
abbrev Zlq:Shape:={ sl:=[],bl:=bl_2,ts:=ts_11,pin:=1 }
def Z2k (x:(T7 × Int × Bool × T47 × (Int × Int) × List (T17) × List T43 × List (T18) × List T29 × List (T20))):Option T57 :=
 (Z2g (x.1,x.2.1,x.2.2.1,x.2.2.2.1,x.2.2.2.2.1,x.2.2.2.2.2.1,x.2.2.2.2.2.2.1,x.2.2.2.2.2.2.2.1,x.2.2.2.2.2.2.2.2.1,x.2.2.2.2.2.2.2.2.2)).bind fun r16 =>
 bif (r16.1.1 == (0:Int)) then
 (Z39 (x.1.1,r16.2.1,r16.2.2.1,r16.2.2.2.1,r16.2.2.2.2.1,r16.2.2.2.2.2.1,r16.2.2.2.2.2.2.1,r16.2.2.2.2.2.2.2)).bind fun r17 =>
 some (r17.1,r17.2.1,r17.2.2.1,r17.2.2.2.1,r17.2.2.2.2.1,r17.2.2.2.2.2.1,r17.2.2.2.2.2.2)
 else
 bif (r16.1.1 == (3:Int)) then
 some (r16.2.1,(r16.2.2.1.1,(3:Int)),r16.2.2.2.1,r16.2.2.2.2.1,r16.2.2.2.2.2.1,r16.2.2.2.2.2.2.1,r16.2.2.2.2.2.2.2)
 else
 bif (r16.1.2.2.1.1 != (Int.negSucc 0)) then
 (Z1y (r16.1.2.2.1,x.2.1,r16.1.2.2.2,(1:Int),r16.2.1,r16.2.2.1,r16.2.2.2.1,r16.2.2.2.2.1,r16.2.2.2.2.2.1,r16.2.2.2.2.2.2.1,r16.2.2.2.2.2.2.2)).bind fun r17 =>
 (Z1y (x.1,x.2.1,r16.1.2.1,r16.1.1,r17.1,r17.2.1,r17.2.2.1,r17.2.2.2.1,r17.2.2.2.2.1,r17.2.2.2.2.2.1,r17.2.2.2.2.2.2)).bind fun r18 =>
 some (r18.1,r18.2.1,r18.2.2.1,r18.2.2.2.1,r18.2.2.2.2.1,r18.2.2.2.2.2.1,r18.2.2.2.2.2.2)
 else
 (Z1y (x.1,x.2.1,r16.1.2.1,r16.1.1,r16.2.1,r16.2.2.1,r16.2.2.2.1,r16.2.2.2.2.1,r16.2.2.2.2.2.1,r16.2.2.2.2.2.2.1,r16.2.2.2.2.2.2.2)).bind fun r17 =>
 some (r17.1,r17.2.1,r17.2.2.1,r17.2.2.2.1,r17.2.2.2.2.1,r17.2.2.2.2.2.1,r17.2.2.2.2.2.2)
abbrev Zpl:=Spec.shp Zhv Zlq Z2k
def Zbe:Ctx:={ tb:=mkTb T2.tbl,fx:=[(124,[],Zpj),(125,[],Zpx),(123,[],Zpa)],sum:=[],nt:=47,pin:=1,nr:=true,ys:=[] }
theorem Z2l:Sound Tryz.prog 121 (Zpl) :=
 Sound.shp (C:=Zbe) (fn:=Tryz.f121) (by kernel_rfl) (c:=bodyOf Tryz.f121) (by kernel_rfl) (by decide) (ctxOK mixed tbl_ok rfl ⟨Z2h,Z3a,Z1z,trivial⟩ trivial) (SumOK.of trivial) (by kernel_rfl) Zhv Zlq rfl (by decide) (by decide) rfl (by decide) rfl Z2k (fun x=>by kernel_rfl)
abbrev Zhz:Shape:={ sl:=sl_26,bl:=bl_2,ts:=ts_14,pin:=0 }
abbrev Zlu:Shape:={ sl:=[],bl:=bl_2,ts:=ts_11,pin:=1 }
def Z2s (x:T60):Option T57 :=
 (Z35 (x.1.1,(2:Int),x.2.1.2.1,(0:Int),(Int.negSucc 0),x.2.2.1,x.2.2.2.1,x.2.2.2.2.1,x.2.2.2.2.2.1,x.2.2.2.2.2.2.1,x.2.2.2.2.2.2.2.1,x.2.2.2.2.2.2.2.2)).bind fun r14 =>
 (Z2k ((x.1.1,(0:Int),r14.1),x.2.1.2.1,true,r14.2.1,r14.2.2.1,r14.2.2.2.1,r14.2.2.2.2.1,r14.2.2.2.2.2.1,r14.2.2.2.2.2.2.1,r14.2.2.2.2.2.2.2)).bind fun r15 =>
 some (r15.1,r15.2.1,r15.2.2.1,r15.2.2.2.1,r15.2.2.2.2.1,r15.2.2.2.2.2.1,r15.2.2.2.2.2.2)
abbrev Zpp:=Spec.shp Zhz Zlu Z2s
def Zbj:Ctx:={ tb:=mkTb T2.tbl,fx:=[(40,[],Zpv),(121,[],Zpl)],sum:=[],nt:=21,pin:=1,nr:=true,ys:=[] }
theorem Z2t:Sound Tryz.prog 65 (Zpp) :=
 Sound.shp (C:=Zbj) (fn:=Tryz.f65) (by kernel_rfl) (c:=bodyOf Tryz.f65) (by kernel_rfl) (by decide) (ctxOK mixed tbl_ok rfl ⟨Z36,Z2l,trivial⟩ trivial) (SumOK.of trivial) (by kernel_rfl) Zhz Zlu rfl (by decide) (by decide) rfl (by decide) rfl Z2s (fun x=>by kernel_rfl)
abbrev Zhx:Shape:={ sl:=sl_26,bl:=bl_2,ts:=ts_14,pin:=0 }
abbrev Zls:Shape:={ sl:=[],bl:=bl_2,ts:=ts_11,pin:=1 }
def Z2o (x:T60):Option T57 :=
 (Z35 (x.1.1,(4:Int),x.2.1.2.1,(0:Int),(Int.negSucc 0),x.2.2.1,x.2.2.2.1,x.2.2.2.2.1,x.2.2.2.2.2.1,x.2.2.2.2.2.2.1,x.2.2.2.2.2.2.2.1,x.2.2.2.2.2.2.2.2)).bind fun r14 =>
 (Z2k ((x.1.1,(0:Int),r14.1),x.2.1.2.1,false,r14.2.1,r14.2.2.1,r14.2.2.2.1,r14.2.2.2.2.1,r14.2.2.2.2.2.1,r14.2.2.2.2.2.2.1,r14.2.2.2.2.2.2.2)).bind fun r15 =>
 some (r15.1,r15.2.1,r15.2.2.1,r15.2.2.2.1,r15.2.2.2.2.1,r15.2.2.2.2.2.1,r15.2.2.2.2.2.2)
abbrev Zpn:=Spec.shp Zhx Zls Z2o
def Zbg:Ctx:={ tb:=mkTb T2.tbl,fx:=[(40,[],Zpv),(121,[],Zpl)],sum:=[],nt:=21,pin:=1,nr:=true,ys:=[] }
theorem Z2p:Sound Tryz.prog 66 (Zpn) :=
 Sound.shp (C:=Zbg) (fn:=Tryz.f66) (by kernel_rfl) (c:=bodyOf Tryz.f66) (by kernel_rfl) (by decide) (ctxOK mixed tbl_ok rfl ⟨Z36,Z2l,trivial⟩ trivial) (SumOK.of trivial) (by kernel_rfl) Zhx Zls rfl (by decide) (by decide) rfl (by decide) rfl Z2o (fun x=>by kernel_rfl)
abbrev Zgm:Shape:={ sl:=[(0,(.hole y40))],bl:=[],ts:=[y40],pin:=0 }
abbrev Zkh:Shape:={ sl:=[(0,(.hole y40)),(1,(.hole (.slice y5))),(2,(.hole .bool)),(3,(.hole (.int .i64)))],bl:=[],ts:=[y40,(.slice y5),.bool,(.int .i64)],pin:=0 }
def Z0 (x:T43):Option ((Int × T40) × List (T7) × Bool × Int) :=
 (Za x).bind fun r15 =>
 bif (Bool.not r15) then
 some (((0:Int),false,((0:Int),(0:Int),([]:List Int),(0:Int)),(0:Int),(0:Int),([]:List T7),([]:List T7)),([]:List T7),false,(1:Int))
 else
 bif (decide (x.1 < (0:Int))) then
 some (x,([]:List T7),true,(0:Int))
 else
 bif x.2.1 then
 some (x,([]:List T7),true,(0:Int))
 else
 bif (decide ((((List.length x.2.2.2.2.2.1):Nat):Int) > (0:Int))) then
 some (x,([]:List T7),true,(0:Int))
 else
 some ((x.1,true,x.2.2.1,x.2.2.2.1,x.2.2.2.2.1,x.2.2.2.2.2.1,([]:List T7)),x.2.2.2.2.2.2,false,(0:Int))
abbrev Zoc:=Spec.shp Zgm Zkh Z0
def Z9w:Ctx:={ tb:=mkTb T2.tbl,fx:=[(112,[],Zoh)],sum:=[],nt:=31,pin:=0,nr:=true,ys:=[] }
theorem Z1:Sound Tryz.prog 122 (Zoc) :=
 Sound.shp (C:=Z9w) (fn:=Tryz.f122) (by kernel_rfl) (c:=bodyOf Tryz.f122) (by kernel_rfl) (by decide) (ctxOK mixed tbl_ok rfl ⟨Zb,trivial⟩ trivial) (SumOK.of trivial) (by kernel_rfl) Zgm Zkh rfl (by decide) (by decide) rfl (by decide) rfl Z0 (fun x=>by kernel_rfl)
abbrev Zfy:Shape:={ sl:=[(0,(.ptr 0 [])),(5,(.ptr 1 [])),(10,(.mp 2)),(53,(.hole (.slice y5))),(54,(.hole (.int .i64))),(55,(.hole (.int .i64)))],bl:=[.var (.pr (.pr (.hole y39) (.pr (.sl 3) (.pr (.sl 4) (.pr (.sl 5) (.pr (.sl 6) (.hole y4)))))) (.sl 7)),.var (.hole y5),.mp (.int .i64) (.int .i64),.row y12,.row y40,.row y15,.row y23,.row y24],ts:=[(.slice y5),(.int .i64),(.int .i64),y39,y4,y5,(.slice y4),y18,y41,y19,y26,y27],pin:=1 }
abbrev Zf0:List (ETag × Shape):=[(.exit 0,{ sl:=[],bl:=bl_2,ts:=ts_11,pin:=1 })]
def Z8h (x:(List (T7) × Int × Int × T47 × (Int × Int) × T7 × List (Int × Int) × List (T17) × List T43 × List (T18) × List T29 × List (T20))):Option ((List (T7) × Int × Int × T47 × (Int × Int) × T7 × List (Int × Int) × List (T17) × List T43 × List (T18) × List T29 × List (T20)) ⊕ (T57)) :=
 bif (decide (x.2.2.1 < x.2.1)) then
 bif (inb x.2.2.1 (List.length x.1)) then
 bif ((@mlook (Int) (Int) (Ty.beq (.int .i64)) (Ty.zero (.int .i64)) (getAt ((0:Int),(0:Int),(0:Int)) x.1 (toN x.2.2.1)).1 (@mput (Int) (Int) (Ty.beq (.int .i64)) (getAt ((0:Int),(0:Int),(0:Int)) x.1 (toN x.2.2.1)).1 (IntKind.wrap .i64 ((@mlook (Int) (Int) (Ty.beq (.int .i64)) (Ty.zero (.int .i64)) (getAt ((0:Int),(0:Int),(0:Int)) x.1 (toN x.2.2.1)).1 x.2.2.2.2.2.2.1)+(1:Int))) x.2.2.2.2.2.2.1)) == (1:Int)) then
 (Z1y ((getAt ((0:Int),(0:Int),(0:Int)) x.1 (toN x.2.2.1)),x.2.2.2.2.2.1.2.1,(0:Int),(2:Int),x.2.2.2.1,x.2.2.2.2.1,x.2.2.2.2.2.2.2.1,x.2.2.2.2.2.2.2.2.1,x.2.2.2.2.2.2.2.2.2.1,x.2.2.2.2.2.2.2.2.2.2.1,x.2.2.2.2.2.2.2.2.2.2.2)).bind fun r18 =>
 some (.inl (x.1,x.2.1,(IntKind.wrap .i64 (x.2.2.1+(1:Int))),r18.1,r18.2.1,x.2.2.2.2.2.1,(@mput (Int) (Int) (Ty.beq (.int .i64)) (getAt ((0:Int),(0:Int),(0:Int)) x.1 (toN x.2.2.1)).1 (IntKind.wrap .i64 ((@mlook (Int) (Int) (Ty.beq (.int .i64)) (Ty.zero (.int .i64)) (getAt ((0:Int),(0:Int),(0:Int)) x.1 (toN x.2.2.1)).1 x.2.2.2.2.2.2.1)+(1:Int))) x.2.2.2.2.2.2.1),r18.2.2.1,r18.2.2.2.1,r18.2.2.2.2.1,r18.2.2.2.2.2.1,r18.2.2.2.2.2.2))
 else
 some (.inl (x.1,x.2.1,(IntKind.wrap .i64 (x.2.2.1+(1:Int))),x.2.2.2.1,x.2.2.2.2.1,x.2.2.2.2.2.1,(@mput (Int) (Int) (Ty.beq (.int .i64)) (getAt ((0:Int),(0:Int),(0:Int)) x.1 (toN x.2.2.1)).1 (IntKind.wrap .i64 ((@mlook (Int) (Int) (Ty.beq (.int .i64)) (Ty.zero (.int .i64)) (getAt ((0:Int),(0:Int),(0:Int)) x.1 (toN x.2.2.1)).1 x.2.2.2.2.2.2.1)+(1:Int))) x.2.2.2.2.2.2.1),x.2.2.2.2.2.2.2.1,x.2.2.2.2.2.2.2.2.1,x.2.2.2.2.2.2.2.2.2.1,x.2.2.2.2.2.2.2.2.2.2.1,x.2.2.2.2.2.2.2.2.2.2.2))
 else
 none
 else
 some (.inr (x.2.2.2.1,x.2.2.2.2.1,x.2.2.2.2.2.2.2.1,x.2.2.2.2.2.2.2.2.1,x.2.2.2.2.2.2.2.2.2.1,x.2.2.2.2.2.2.2.2.2.2.1,x.2.2.2.2.2.2.2.2.2.2.2))
def Zbo:Ctx:={ tb:=mkTb T2.tbl,fx:=[(122,[],Zoc),(40,[],Zpv),(120,[],Zpc),(123,[],Zpa)],sum:=[],nt:=75,pin:=1,nr:=true,ys:=[] }
theorem Z8i:CSound Tryz.prog ⟨75,1,true⟩ (.loop (loopOf 10 Tryz.f67)) (Yaz Zfy Zf0 (loop Z8h)) :=
 Y8f (C:=Zbo) (ctxOK mixed tbl_ok rfl ⟨Z1,Z36,Z23,Z1z,trivial⟩ trivial) (SumOK.of trivial) Zfy Zf0 rfl rfl Z8h (fun x=>by kernel_rfl)
abbrev Zi3:Shape:={ sl:=sl_26,bl:=bl_2,ts:=ts_14,pin:=0 }
abbrev Zly:Shape:={ sl:=[],bl:=bl_2,ts:=ts_11,pin:=1 }
def Z31 (x:T60):Option T57 :=
 bif (inb x.2.1.2.1 (List.length x.2.2.2.2.2.1)) then
 (Z0 (getAt ((0:Int),false,((0:Int),(0:Int),([]:List Int),(0:Int)),(0:Int),(0:Int),([]:List T7),([]:List T7)) x.2.2.2.2.2.1 (toN x.2.1.2.1))).bind fun r14 =>
 bif r14.2.2.1 then
 some (x.2.2.1,(x.2.2.2.1.1,(3:Int)),x.2.2.2.2.1,x.2.2.2.2.2.1,x.2.2.2.2.2.2.1,x.2.2.2.2.2.2.2.1,x.2.2.2.2.2.2.2.2)
 else
 bif (inb x.2.1.2.1 (List.length x.2.2.2.2.2.1)) then
 (Z35 (x.1.1,(7:Int),x.2.1.2.1,(0:Int),(Int.negSucc 0),x.2.2.1,x.2.2.2.1,x.2.2.2.2.1,(List.set x.2.2.2.2.2.1 (toN x.2.1.2.1) r14.1),x.2.2.2.2.2.2.1,x.2.2.2.2.2.2.2.1,x.2.2.2.2.2.2.2.2)).bind fun r15 =>
 (Z22 (x.1.1,r15.2.1,r15.2.2.1,r15.2.2.2.1,r15.2.2.2.2.1,r15.2.2.2.2.2.1,r15.2.2.2.2.2.2.1,r15.2.2.2.2.2.2.2)).bind fun r16 =>
 (loop Z8h (r14.2.1,(((List.length r14.2.1):Nat):Int),(0:Int),r16.1,r16.2.1,x.2.1,([]:List (Int × Int)),r16.2.2.1,r16.2.2.2.1,r16.2.2.2.2.1,r16.2.2.2.2.2.1,r16.2.2.2.2.2.2)).bind fun r17 =>
 some (r17.1,r17.2.1,r17.2.2.1,r17.2.2.2.1,r17.2.2.2.2.1,r17.2.2.2.2.2.1,r17.2.2.2.2.2.2)
 else
 none
 else
 none
abbrev Zpt:=Spec.shp Zi3 Zly Z31
def Zbn:Ctx:={ tb:=mkTb T2.tbl,fx:=[(122,[],Zoc),(40,[],Zpv),(120,[],Zpc),(123,[],Zpa)],sum:=[(0,10,Yaz Zfy Zf0 (loop Z8h))],nt:=75,pin:=1,nr:=true,ys:=[] }
theorem Z32:Sound Tryz.prog 67 (Zpt) :=
 Sound.shp (C:=Zbn) (fn:=Tryz.f67) (by kernel_rfl) (c:=bodyOf Tryz.f67) (by kernel_rfl) (by decide) (ctxOK mixed tbl_ok rfl ⟨Z1,Z36,Z23,Z1z,trivial⟩ trivial) (SumOK.of ⟨(Yb1 (d:=.loop (loopOf 10 Tryz.f67)) (by kernel_rfl) Z8i),trivial⟩) (by kernel_rfl) Zi3 Zly rfl (by decide) (by decide) rfl (by decide) rfl Z31 (fun x=>by kernel_rfl)
abbrev Zfx:Shape:={ sl:=[(0,(.ptr 0 [])),(4,(.ptr 1 [])),(6,(.hole (.int .i64))),(28,(.hole (.slice y2))),(29,(.hole (.int .i64))),(30,(.hole (.int .i64)))],bl:=bl_15,ts:=[(.int .i64),(.slice y2),(.int .i64),(.int .i64),y39,y4,y4,y18,y41,y19,y26,y27],pin:=1 }
abbrev Zez:List (ETag × Shape):=[(.exit 1,{ sl:=[(0,(.ptr 0 [])),(4,(.ptr 1 []))],bl:=bl_15,ts:=[y39,y4,y4,y18,y41,y19,y26,y27],pin:=1 })]
def Z8f (x:(Int × List T0 × Int × Int × T47 × (Int × Int) × (Int × Int) × List (T17) × List T43 × List (T18) × List T29 × List (T20))):Option ((Int × List T0 × Int × Int × T47 × (Int × Int) × (Int × Int) × List (T17) × List T43 × List (T18) × List T29 × List (T20)) ⊕ (T47 × (Int × Int) × (Int × Int) × List (T17) × List T43 × List (T18) × List T29 × List (T20))) :=
 bif (decide (x.2.2.2.1 < x.2.2.1)) then
 bif (inb x.2.2.2.1 (List.length x.2.1)) then
 (Z2g ((x.2.2.2.2.2.2.1.1,x.2.2.2.1,x.1),(getAt (false,(0:Int)) x.2.1 (toN x.2.2.2.1)).2,(getAt (false,(0:Int)) x.2.1 (toN x.2.2.2.1)).1,x.2.2.2.2.1,x.2.2.2.2.2.1,x.2.2.2.2.2.2.2.1,x.2.2.2.2.2.2.2.2.1,x.2.2.2.2.2.2.2.2.2.1,x.2.2.2.2.2.2.2.2.2.2.1,x.2.2.2.2.2.2.2.2.2.2.2)).bind fun r16 =>
 some (.inl (x.1,x.2.1,x.2.2.1,(IntKind.wrap .i64 (x.2.2.2.1+(1:Int))),r16.2.1,r16.2.2.1,x.2.2.2.2.2.2.1,r16.2.2.2.1,r16.2.2.2.2.1,r16.2.2.2.2.2.1,r16.2.2.2.2.2.2.1,r16.2.2.2.2.2.2.2))
 else
 none
 else
 some (.inr (x.2.2.2.2.1,x.2.2.2.2.2.1,x.2.2.2.2.2.2.1,x.2.2.2.2.2.2.2.1,x.2.2.2.2.2.2.2.2.1,x.2.2.2.2.2.2.2.2.2.1,x.2.2.2.2.2.2.2.2.2.2.1,x.2.2.2.2.2.2.2.2.2.2.2))
def Zbi:Ctx:={ tb:=mkTb T2.tbl,fx:=[(40,[],Zpv),(121,[],Zpl),(120,[],Zpc),(124,[],Zpj)],sum:=[],nt:=87,pin:=1,nr:=true,ys:=[] }
theorem Z8g:CSound Tryz.prog ⟨87,1,true⟩ (.loop (loopOf 5 Tryz.f68)) (Yaz Zfx Zez (loop Z8f)) :=
 Y8f (C:=Zbi) (ctxOK mixed tbl_ok rfl ⟨Z36,Z2l,Z23,Z2h,trivial⟩ trivial) (SumOK.of trivial) Zfx Zez rfl rfl Z8f (fun x=>by kernel_rfl)
abbrev Zhy:Shape:={ sl:=sl_26,bl:=bl_2,ts:=ts_14,pin:=0 }
abbrev Zlt:Shape:={ sl:=[],bl:=bl_2,ts:=ts_11,pin:=1 }
def Z2q (x:T60):Option T57 :=
 (Z35 (x.1.1,(8:Int),x.2.1.2.1,(0:Int),(Int.negSucc 0),x.2.2.1,x.2.2.2.1,x.2.2.2.2.1,x.2.2.2.2.2.1,x.2.2.2.2.2.2.1,x.2.2.2.2.2.2.2.1,x.2.2.2.2.2.2.2.2)).bind fun r14 =>
 bif (inb x.2.1.2.1 (List.length r14.2.1.2.2.2.2.1)) then
 bif (x.1.2 != (Int.negSucc 0)) then
 bif (inb x.1.2 (List.length (getAt (([]:List T0),false) r14.2.1.2.2.2.2.1 (toN x.2.1.2.1)).1)) then
 (Z2k ((x.1.1,x.1.2,r14.1),(getAt (false,(0:Int)) (getAt (([]:List T0),false) r14.2.1.2.2.2.2.1 (toN x.2.1.2.1)).1 (toN x.1.2)).2,(getAt (false,(0:Int)) (getAt (([]:List T0),false) r14.2.1.2.2.2.2.1 (toN x.2.1.2.1)).1 (toN x.1.2)).1,r14.2.1,r14.2.2.1,r14.2.2.2.1,r14.2.2.2.2.1,r14.2.2.2.2.2.1,r14.2.2.2.2.2.2.1,r14.2.2.2.2.2.2.2)).bind fun r15 =>
 some (r15.1,r15.2.1,r15.2.2.1,r15.2.2.2.1,r15.2.2.2.2.1,r15.2.2.2.2.2.1,r15.2.2.2.2.2.2)
 else
 none
 else
 bif (getAt (([]:List T0),false) r14.2.1.2.2.2.2.1 (toN x.2.1.2.1)).2 then
 (Z35 (x.1.1,(9:Int),x.2.1.2.1,(0:Int),r14.1,r14.2.1,r14.2.2.1,r14.2.2.2.1,r14.2.2.2.2.1,r14.2.2.2.2.2.1,r14.2.2.2.2.2.2.1,r14.2.2.2.2.2.2.2)).bind fun r15 =>
 (Z22 (x.1.1,r15.2.1,r15.2.2.1,r15.2.2.2.1,r15.2.2.2.2.1,r15.2.2.2.2.2.1,r15.2.2.2.2.2.2.1,r15.2.2.2.2.2.2.2)).bind fun r16 =>
 some (r16.1,r16.2.1,r16.2.2.1,r16.2.2.2.1,r16.2.2.2.2.1,r16.2.2.2.2.2.1,r16.2.2.2.2.2.2)
 else
 (loop Z8f (r14.1,(getAt (([]:List T0),false) r14.2.1.2.2.2.2.1 (toN x.2.1.2.1)).1,(((List.length (getAt (([]:List T0),false) r14.2.1.2.2.2.2.1 (toN x.2.1.2.1)).1):Nat):Int),(0:Int),r14.2.1,r14.2.2.1,x.1,r14.2.2.2.1,r14.2.2.2.2.1,r14.2.2.2.2.2.1,r14.2.2.2.2.2.2.1,r14.2.2.2.2.2.2.2)).bind fun r15 =>
 (Z39 (r15.2.2.1.1,r15.1,r15.2.1,r15.2.2.2.1,r15.2.2.2.2.1,r15.2.2.2.2.2.1,r15.2.2.2.2.2.2.1,r15.2.2.2.2.2.2.2)).bind fun r16 =>
 some (r16.1,r16.2.1,r16.2.2.1,r16.2.2.2.1,r16.2.2.2.2.1,r16.2.2.2.2.2.1,r16.2.2.2.2.2.2)
 else
 none
abbrev Zpo:=Spec.shp Zhy Zlt Z2q
def Zbh:Ctx:={ tb:=mkTb T2.tbl,fx:=[(40,[],Zpv),(121,[],Zpl),(120,[],Zpc),(124,[],Zpj),(125,[],Zpx)],sum:=[(0,5,Yaz Zfx Zez (loop Z8f))],nt:=87,pin:=1,nr:=true,ys:=[] }
theorem Z2r:Sound Tryz.prog 68 (Zpo) :=
 Sound.shp (C:=Zbh) (fn:=Tryz.f68) (by kernel_rfl) (c:=bodyOf Tryz.f68) (by kernel_rfl) (by decide) (ctxOK mixed tbl_ok rfl ⟨Z36,Z2l,Z23,Z2h,Z3a,trivial⟩ trivial) (SumOK.of ⟨(Yb1 (d:=.loop (loopOf 5 Tryz.f68)) (by kernel_rfl) Z8g),trivial⟩) (by kernel_rfl) Zhy Zlt rfl (by decide) (by decide) rfl (by decide) rfl Z2q (fun x=>by kernel_rfl)
abbrev Zh5:Shape:={ sl:=[(0,(.hole (.one (.slice y5))))],bl:=[],ts:=[(.one (.slice y5))],pin:=0 }
abbrev Zl0:Shape:={ sl:=[(0,(.hole y15))],bl:=[],ts:=[y15],pin:=0 }
def Z14 (x:(List (T7))):Option (T18) :=
 some (true,x)
abbrev Zov:=Spec.shp Zh5 Zl0 Z14
def Zag:Ctx:={ tb:=mkTb T2.tbl,fx:=[],sum:=[],nt:=6,pin:=0,nr:=true,ys:=[] }
theorem Z15:Sound Tryz.prog 172 (Zov) :=
 Sound.shp (C:=Zag) (fn:=Tryz.f172) (by kernel_rfl) (c:=bodyOf Tryz.f172) (by kernel_rfl) (by decide) (ctxOK mixed tbl_ok rfl trivial trivial) (SumOK.of trivial) (by kernel_rfl) Zh5 Zl0 rfl (by decide) (by decide) rfl (by decide) rfl Z14 (fun x=>by kernel_rfl)
abbrev Zh4:Shape:={ sl:=[(0,(.hole y15)),(1,(.hole y5))],bl:=[],ts:=[y15,y5],pin:=0 }
abbrev Zkz:Shape:={ sl:=[(0,(.hole y15)),(1,(.hole .bool)),(2,(.hole (.int .i64)))],bl:=[],ts:=[y15,.bool,(.int .i64)],pin:=0 }
def Z12 (x:(T18 × T7)):Option (T18 × Bool × Int) :=
 (Z7n (x.1.2,x.2)).bind fun r16 =>
 (Z10 x.1).bind fun r17 =>
 bif (Bool.not r17) then
 some ((false,([]:List T7)),false,(1:Int))
 else
 bif (r16.2 == (1:Int)) then
 some ((false,([]:List T7)),false,(1:Int))
 else
 bif (Bool.not x.1.1) then
 (Z14 ([]:List T7)).bind fun r18 =>
 some (r18,true,(0:Int))
 else
 bif (r16.2 != (0:Int)) then
 some ((false,([]:List T7)),false,r16.2)
 else
 (Z14 r16.1).bind fun r18 =>
 some (r18,false,(0:Int))
abbrev Zou:=Spec.shp Zh4 Zkz Z12
def Zaf:Ctx:={ tb:=mkTb T2.tbl,fx:=[(171,[],Zs1),(117,[],Zot),(172,[],Zov)],sum:=[],nt:=39,pin:=0,nr:=true,ys:=[] }
theorem Z13:Sound Tryz.prog 126 (Zou) :=
 Sound.shp (C:=Zaf) (fn:=Tryz.f126) (by kernel_rfl) (c:=bodyOf Tryz.f126) (by kernel_rfl) (by decide) (ctxOK mixed tbl_ok rfl ⟨Z7o,Z11,Z15,trivial⟩ trivial) (SumOK.of trivial) (by kernel_rfl) Zh4 Zkz rfl (by decide) (by decide) rfl (by decide) rfl Z12 (fun x=>by kernel_rfl)
abbrev Zhr:Shape:={ sl:=[(0,(.ptr 0 [])),(1,(.hole (.int .i64))),(2,(.hole (.int .i64))),(3,(.hole (.int .i64)))],bl:=bl_2,ts:=[(.int .i64),(.int .i64),(.int .i64),y39,y4,y18,y41,y19,y26,y27],pin:=0 }
abbrev Zlm:Shape:={ sl:=[],bl:=bl_2,ts:=ts_11,pin:=1 }
def Z2c (x:(Int × Int × Int × T47 × (Int × Int) × List (T17) × List T43 × List (T18) × List T29 × List (T20))):Option T57 :=
 (Z35 (x.1,(11:Int),x.2.1,(0:Int),x.2.2.1,x.2.2.2.1,x.2.2.2.2.1,x.2.2.2.2.2.1,x.2.2.2.2.2.2.1,x.2.2.2.2.2.2.2.1,x.2.2.2.2.2.2.2.2.1,x.2.2.2.2.2.2.2.2.2)).bind fun r17 =>
 (Z22 (x.1,r17.2.1,r17.2.2.1,r17.2.2.2.1,r17.2.2.2.2.1,r17.2.2.2.2.2.1,r17.2.2.2.2.2.2.1,r17.2.2.2.2.2.2.2)).bind fun r18 =>
 some (r18.1,r18.2.1,r18.2.2.1,r18.2.2.2.1,r18.2.2.2.2.1,r18.2.2.2.2.2.1,r18.2.2.2.2.2.2)
abbrev Zph:=Spec.shp Zhr Zlm Z2c
def Zba:Ctx:={ tb:=mkTb T2.tbl,fx:=[(40,[],Zpv),(120,[],Zpc)],sum:=[],nt:=16,pin:=1,nr:=true,ys:=[] }
theorem Z2d:Sound Tryz.prog 127 (Zph) :=
 Sound.shp (C:=Zba) (fn:=Tryz.f127) (by kernel_rfl) (c:=bodyOf Tryz.f127) (by kernel_rfl) (by decide) (ctxOK mixed tbl_ok rfl ⟨Z36,Z23,trivial⟩ trivial) (SumOK.of trivial) (by kernel_rfl) Zhr Zlm rfl (by decide) (by decide) rfl (by decide) rfl Z2c (fun x=>by kernel_rfl)
abbrev Zhq:Shape:={ sl:=sl_26,bl:=bl_2,ts:=ts_14,pin:=0 }
abbrev Zll:Shape:={ sl:=[],bl:=bl_2,ts:=ts_11,pin:=1 }
def Z2a (x:T60):Option T57 :=
 (Z35 (x.1.1,(10:Int),x.2.1.2.1,(0:Int),(Int.negSucc 0),x.2.2.1,x.2.2.2.1,x.2.2.2.2.1,x.2.2.2.2.2.1,x.2.2.2.2.2.2.1,x.2.2.2.2.2.2.2.1,x.2.2.2.2.2.2.2.2)).bind fun r14 =>
 bif (inb x.2.1.2.1 (List.length r14.2.2.2.2.2.1)) then
 (Z12 ((getAt (false,([]:List T7)) r14.2.2.2.2.2.1 (toN x.2.1.2.1)),x.1.1,(0:Int),r14.1)).bind fun r15 =>
 bif (inb x.2.1.2.1 (List.length r14.2.2.2.2.2.1)) then
 bif (Bool.not r15.2.1) then
 (Z39 (x.1.1,r14.2.1,r14.2.2.1,r14.2.2.2.1,r14.2.2.2.2.1,(List.set r14.2.2.2.2.2.1 (toN x.2.1.2.1) r15.1),r14.2.2.2.2.2.2.1,r14.2.2.2.2.2.2.2)).bind fun r16 =>
 some (r16.1,r16.2.1,r16.2.2.1,r16.2.2.2.1,r16.2.2.2.2.1,r16.2.2.2.2.2.1,r16.2.2.2.2.2.2)
 else
 (Z2c (x.1.1,x.2.1.2.1,r14.1,r14.2.1,r14.2.2.1,r14.2.2.2.1,r14.2.2.2.2.1,(List.set r14.2.2.2.2.2.1 (toN x.2.1.2.1) r15.1),r14.2.2.2.2.2.2.1,r14.2.2.2.2.2.2.2)).bind fun r16 =>
 some (r16.1,r16.2.1,r16.2.2.1,r16.2.2.2.1,r16.2.2.2.2.1,r16.2.2.2.2.2.1,r16.2.2.2.2.2.2)
 else
 none
 else
 none
abbrev Zpg:=Spec.shp Zhq Zll Z2a
def Zb9:Ctx:={ tb:=mkTb T2.tbl,fx:=[(40,[],Zpv),(126,[],Zou),(125,[],Zpx),(127,[],Zph)],sum:=[],nt:=56,pin:=1,nr:=true,ys:=[] }
theorem Z2b:Sound Tryz.prog 69 (Zpg) :=
 Sound.shp (C:=Zb9) (fn:=Tryz.f69) (by kernel_rfl) (c:=bodyOf Tryz.f69) (by kernel_rfl) (by decide) (ctxOK mixed tbl_ok rfl ⟨Z36,Z13,Z3a,Z2d,trivial⟩ trivial) (SumOK.of trivial) (by kernel_rfl) Zhq Zll rfl (by decide) (by decide) rfl (by decide) rfl Z2a (fun x=>by kernel_rfl)
abbrev Zh2:Shape:={ sl:=[(0,(.hole y15))],bl:=[],ts:=[y15],pin:=0 }
abbrev Zkx:Shape:={ sl:=[(0,(.hole y15)),(1,(.hole y5)),(2,(.hole .bool)),(3,(.hole (.int .i64)))],bl:=[],ts:=[y15,y5,.bool,(.int .i64)],pin:=0 }
def Zy (x:(T18)):Option (T18 × T7 × Bool × Int) :=
 (Z10 x).bind fun r15 =>
 bif (Bool.not r15) then
 some ((false,([]:List T7)),((0:Int),(0:Int),(0:Int)),false,(1:Int))
 else
 bif (Bool.not x.1) then
 some ((false,([]:List T7)),((0:Int),(0:Int),(0:Int)),false,(6:Int))
 else
 bif ((((List.length x.2):Nat):Int) == (0:Int)) then
 some ((false,([]:List T7)),((0:Int),(0:Int),(0:Int)),false,(0:Int))
 else
 bif (sub3 (1:Int) (((List.length x.2):Nat):Int) (List.length x.2)) then
 (Z14 (cut x.2 (toN (1:Int)) ((toN (((List.length x.2):Nat):Int)) - (toN (1:Int))))).bind fun r16 =>
 bif (inb (0:Int) (List.length x.2)) then
 some (r16,(getAt ((0:Int),(0:Int),(0:Int)) x.2 (toN (0:Int))),true,(0:Int))
 else
 none
 else
 none
abbrev Zos:=Spec.shp Zh2 Zkx Zy
def Zad:Ctx:={ tb:=mkTb T2.tbl,fx:=[(117,[],Zot),(172,[],Zov)],sum:=[],nt:=34,pin:=0,nr:=true,ys:=[] }
theorem Zz:Sound Tryz.prog 128 (Zos) :=
 Sound.shp (C:=Zad) (fn:=Tryz.f128) (by kernel_rfl) (c:=bodyOf Tryz.f128) (by kernel_rfl) (by decide) (ctxOK mixed tbl_ok rfl ⟨Z11,Z15,trivial⟩ trivial) (SumOK.of trivial) (by kernel_rfl) Zh2 Zkx rfl (by decide) (by decide) rfl (by decide) rfl Zy (fun x=>by kernel_rfl)
abbrev Zi6:Shape:={ sl:=sl_26,bl:=bl_2,ts:=ts_14,pin:=0 }
abbrev Zm1:Shape:={ sl:=[],bl:=bl_2,ts:=ts_11,pin:=1 }
def Z37 (x:T60):Option T57 :=
 bif (inb x.2.1.2.1 (List.length x.2.2.2.2.2.2.1)) then
 (Zy (getAt (false,([]:List T7)) x.2.2.2.2.2.2.1 (toN x.2.1.2.1))).bind fun r14 =>
 bif (r14.2.2.2 != (0:Int)) then
 some (x.2.2.1,(x.2.2.2.1.1,(3:Int)),x.2.2.2.2.1,x.2.2.2.2.2.1,x.2.2.2.2.2.2.1,x.2.2.2.2.2.2.2.1,x.2.2.2.2.2.2.2.2)
 else
 bif (inb x.2.1.2.1 (List.length x.2.2.2.2.2.2.1)) then
 (Z35 (x.1.1,(12:Int),x.2.1.2.1,(0:Int),(Int.negSucc 0),x.2.2.1,x.2.2.2.1,x.2.2.2.2.1,x.2.2.2.2.2.1,(List.set x.2.2.2.2.2.2.1 (toN x.2.1.2.1) r14.1),x.2.2.2.2.2.2.2.1,x.2.2.2.2.2.2.2.2)).bind fun r15 =>
 (Z22 (x.1.1,r15.2.1,r15.2.2.1,r15.2.2.2.1,r15.2.2.2.2.1,r15.2.2.2.2.2.1,r15.2.2.2.2.2.2.1,r15.2.2.2.2.2.2.2)).bind fun r16 =>
 bif r14.2.2.1 then
 (Z2c (r14.2.1.1,x.2.1.2.1,r14.2.1.2.2,r16.1,r16.2.1,r16.2.2.1,r16.2.2.2.1,r16.2.2.2.2.1,r16.2.2.2.2.2.1,r16.2.2.2.2.2.2)).bind fun r17 =>
 some (r17.1,r17.2.1,r17.2.2.1,r17.2.2.2.1,r17.2.2.2.2.1,r17.2.2.2.2.2.1,r17.2.2.2.2.2.2)
 else
 some (r16.1,r16.2.1,r16.2.2.1,r16.2.2.2.1,r16.2.2.2.2.1,r16.2.2.2.2.2.1,r16.2.2.2.2.2.2)
 else
 none
 else
 none
abbrev Zpw:=Spec.shp Zi6 Zm1 Z37
def Zbr:Ctx:={ tb:=mkTb T2.tbl,fx:=[(128,[],Zos),(40,[],Zpv),(120,[],Zpc),(127,[],Zph)],sum:=[],nt:=59,pin:=1,nr:=true,ys:=[] }
theorem Z38:Sound Tryz.prog 70 (Zpw) :=
 Sound.shp (C:=Zbr) (fn:=Tryz.f70) (by kernel_rfl) (c:=bodyOf Tryz.f70) (by kernel_rfl) (by decide) (ctxOK mixed tbl_ok rfl ⟨Zz,Z36,Z23,Z2d,trivial⟩ trivial) (SumOK.of trivial) (by kernel_rfl) Zi6 Zm1 rfl (by decide) (by decide) rfl (by decide) rfl Z37 (fun x=>by kernel_rfl)
abbrev Zid:Shape:={ sl:=sl_30,bl:=[],ts:=[y23,y5],pin:=0 }
abbrev Zm8:Shape:={ sl:=sl_31,bl:=[],ts:=ts_15,pin:=0 }
def Z3l (x:T30):Option T34 :=
 some (((1:Int),x.2.1,([]:List T7)),(0:Int),(0:Int))
abbrev Zq3:=Spec.shp Zid Zm8 Z3l
def Zby:Ctx:={ tb:=mkTb T2.tbl,fx:=[],sum:=[],nt:=10,pin:=0,nr:=true,ys:=[] }
theorem Z3m:Sound Tryz.prog 173 (Zq3) :=
 Sound.shp (C:=Zby) (fn:=Tryz.f173) (by kernel_rfl) (c:=bodyOf Tryz.f173) (by kernel_rfl) (by decide) (ctxOK mixed tbl_ok rfl trivial trivial) (SumOK.of trivial) (by kernel_rfl) Zid Zm8 rfl (by decide) (by decide) rfl (by decide) rfl Z3l (fun x=>by kernel_rfl)
abbrev Zif:Shape:={ sl:=sl_30,bl:=[],ts:=[y23,y5],pin:=0 }
abbrev Zma:Shape:={ sl:=sl_31,bl:=[],ts:=ts_15,pin:=0 }
def Z3p (x:T30):Option T34 :=
 bif (x.1.2.1 == x.2.1) then
 some (((0:Int),(0:Int),([]:List T7)),(0:Int),(6:Int))
 else
 (Z7n (x.1.2.2,x.2)).bind fun r18 =>
 bif (r18.2 != (0:Int)) then
 some (((0:Int),(0:Int),([]:List T7)),(0:Int),r18.2)
 else
 some ((x.1.1,x.1.2.1,r18.1),(1:Int),(0:Int))
abbrev Zq5:=Spec.shp Zif Zma Z3p
def Zc0:Ctx:={ tb:=mkTb T2.tbl,fx:=[(171,[],Zs1)],sum:=[],nt:=29,pin:=0,nr:=true,ys:=[] }
theorem Z3q:Sound Tryz.prog 174 (Zq5) :=
 Sound.shp (C:=Zc0) (fn:=Tryz.f174) (by kernel_rfl) (c:=bodyOf Tryz.f174) (by kernel_rfl) (by decide) (ctxOK mixed tbl_ok rfl ⟨Z7o,trivial⟩ trivial) (SumOK.of trivial) (by kernel_rfl) Zif Zma rfl (by decide) (by decide) rfl (by decide) rfl Z3p (fun x=>by kernel_rfl)
abbrev Zie:Shape:={ sl:=sl_30,bl:=[],ts:=[y23,y5],pin:=0 }
abbrev Zm9:Shape:={ sl:=sl_31,bl:=[],ts:=ts_15,pin:=0 }
def Z3n (x:T30):Option T34 :=
 some (x.1,(2:Int),(0:Int))
abbrev Zq4:=Spec.shp Zie Zm9 Z3n
def Zbz:Ctx:={ tb:=mkTb T2.tbl,fx:=[],sum:=[],nt:=8,pin:=0,nr:=true,ys:=[] }
theorem Z3o:Sound Tryz.prog 175 (Zq4) :=
 Sound.shp (C:=Zbz) (fn:=Tryz.f175) (by kernel_rfl) (c:=bodyOf Tryz.f175) (by kernel_rfl) (by decide) (ctxOK mixed tbl_ok rfl trivial trivial) (SumOK.of trivial) (by kernel_rfl) Zie Zm9 rfl (by decide) (by decide) rfl (by decide) rfl Z3n (fun x=>by kernel_rfl)
abbrev Zia:Shape:={ sl:=sl_30,bl:=[],ts:=[y23,y5],pin:=0 }
abbrev Zm5:Shape:={ sl:=sl_31,bl:=[],ts:=ts_15,pin:=0 }
def Z3f (x:T30):Option T34 :=
 (Z3j x.1).bind fun r16 =>
 bif (Bool.not r16) then
 some (((0:Int),(0:Int),([]:List T7)),(0:Int),(1:Int))
 else
 bif (decide (x.2.1 < (0:Int))) then
 some (((0:Int),(0:Int),([]:List T7)),(0:Int),(1:Int))
 else
 bif (decide (x.2.2.1 < (0:Int))) then
 some (((0:Int),(0:Int),([]:List T7)),(0:Int),(1:Int))
 else
 bif (decide (x.2.2.2 < (0:Int))) then
 some (((0:Int),(0:Int),([]:List T7)),(0:Int),(1:Int))
 else
 bif (x.1.1 == (((0:Nat):Nat):Int)) then
 (Z3l (x.1,x.2)).bind fun r17 =>
 some (r17.1,r17.2.1,r17.2.2)
 else
 bif (x.1.1 == ((((0:Nat)+(1:Nat)):Nat):Int)) then
 (Z3p (x.1,x.2)).bind fun r17 =>
 some (r17.1,r17.2.1,r17.2.2)
 else
 bif (x.1.1 == (((((0:Nat)+(1:Nat))+(1:Nat)):Nat):Int)) then
 (Z3n (x.1,x.2)).bind fun r17 =>
 some (r17.1,r17.2.1,r17.2.2)
 else
 none
abbrev Zq0:=Spec.shp Zia Zm5 Z3f
def Zbv:Ctx:={ tb:=mkTb T2.tbl,fx:=[(118,[],Zq2),(173,[],Zq3),(174,[],Zq5),(175,[],Zq4)],sum:=[],nt:=42,pin:=0,nr:=true,ys:=[] }
theorem Z3g:Sound Tryz.prog 129 (Zq0) :=
 Sound.shp (C:=Zbv) (fn:=Tryz.f129) (by kernel_rfl) (c:=bodyOf Tryz.f129) (by kernel_rfl) (by decide) (ctxOK mixed tbl_ok rfl ⟨Z3k,Z3m,Z3q,Z3o,trivial⟩ trivial) (SumOK.of trivial) (by kernel_rfl) Zia Zm5 rfl (by decide) (by decide) rfl (by decide) rfl Z3f (fun x=>by kernel_rfl)
abbrev Zi4:Shape:={ sl:=sl_14,bl:=bl_2,ts:=[(.int .i64),(.int .i64),y39,y4,y18,y41,y19,y26,y27],pin:=0 }
abbrev Zlz:Shape:={ sl:=[],bl:=bl_2,ts:=ts_11,pin:=1 }
def Z33 (x:(Int × Int × T47 × (Int × Int) × List (T17) × List T43 × List (T18) × List T29 × List (T20))):Option T57 :=
 (Z26 (x.1,x.2.2.1,x.2.2.2.1,x.2.2.2.2.1,x.2.2.2.2.2.1,x.2.2.2.2.2.2.1,x.2.2.2.2.2.2.2.1,x.2.2.2.2.2.2.2.2)).bind fun r17 =>
 (Z35 (x.1,(15:Int),r17.1.2.1,(0:Int),x.2.1,r17.2.1,r17.2.2.1,r17.2.2.2.1,r17.2.2.2.2.1,r17.2.2.2.2.2.1,r17.2.2.2.2.2.2.1,r17.2.2.2.2.2.2.2)).bind fun r18 =>
 (Z24 (x.1,r17.1.2.2,r18.2.1,r18.2.2.1,r18.2.2.2.1,r18.2.2.2.2.1,r18.2.2.2.2.2.1,r18.2.2.2.2.2.2.1,r18.2.2.2.2.2.2.2)).bind fun r19 =>
 some (r19.1,r19.2.1,r19.2.2.1,r19.2.2.2.1,r19.2.2.2.2.1,r19.2.2.2.2.2.1,r19.2.2.2.2.2.2)
abbrev Zpu:=Spec.shp Zi4 Zlz Z33
def Zbp:Ctx:={ tb:=mkTb T2.tbl,fx:=[(78,[],Zpe),(40,[],Zpv),(41,[],Zpd)],sum:=[],nt:=21,pin:=1,nr:=true,ys:=[] }
theorem Z34:Sound Tryz.prog 130 (Zpu) :=
 Sound.shp (C:=Zbp) (fn:=Tryz.f130) (by kernel_rfl) (c:=bodyOf Tryz.f130) (by kernel_rfl) (by decide) (ctxOK mixed tbl_ok rfl ⟨Z27,Z36,Z25,trivial⟩ trivial) (SumOK.of trivial) (by kernel_rfl) Zi4 Zlz rfl (by decide) (by decide) rfl (by decide) rfl Z33 (fun x=>by kernel_rfl)
abbrev Zhj:Shape:={ sl:=sl_26,bl:=bl_2,ts:=ts_14,pin:=0 }
abbrev Zle:Shape:={ sl:=[],bl:=bl_2,ts:=ts_11,pin:=1 }
def Z1w (x:T60):Option T57 :=
 (Z35 (x.1.1,(13:Int),x.2.1.2.1,(0:Int),(Int.negSucc 0),x.2.2.1,x.2.2.2.1,x.2.2.2.2.1,x.2.2.2.2.2.1,x.2.2.2.2.2.2.1,x.2.2.2.2.2.2.2.1,x.2.2.2.2.2.2.2.2)).bind fun r14 =>
 bif (inb x.2.1.2.1 (List.length r14.2.2.2.2.2.2.1)) then
 (Z3f ((getAt ((0:Int),(0:Int),([]:List T7)) r14.2.2.2.2.2.2.1 (toN x.2.1.2.1)),x.1.1,(0:Int),r14.1)).bind fun r15 =>
 bif (r15.2.2 != (0:Int)) then
 (Z39 (x.1.1,r14.2.1,r14.2.2.1,r14.2.2.2.1,r14.2.2.2.2.1,r14.2.2.2.2.2.1,r14.2.2.2.2.2.2.1,r14.2.2.2.2.2.2.2)).bind fun r16 =>
 some (r16.1,r16.2.1,r16.2.2.1,r16.2.2.2.1,r16.2.2.2.2.1,r16.2.2.2.2.2.1,r16.2.2.2.2.2.2)
 else
 bif (inb x.2.1.2.1 (List.length r14.2.2.2.2.2.2.1)) then
 bif (r15.2.1 == (0:Int)) then
 (Z22 (x.1.1,r14.2.1,r14.2.2.1,r14.2.2.2.1,r14.2.2.2.2.1,r14.2.2.2.2.2.1,(List.set r14.2.2.2.2.2.2.1 (toN x.2.1.2.1) r15.1),r14.2.2.2.2.2.2.2)).bind fun r16 =>
 some (r16.1,r16.2.1,r16.2.2.1,r16.2.2.2.1,r16.2.2.2.2.1,r16.2.2.2.2.2.1,r16.2.2.2.2.2.2)
 else
 bif (r15.2.1 == (1:Int)) then
 (Z39 (x.1.1,r14.2.1,r14.2.2.1,r14.2.2.2.1,r14.2.2.2.2.1,r14.2.2.2.2.2.1,(List.set r14.2.2.2.2.2.2.1 (toN x.2.1.2.1) r15.1),r14.2.2.2.2.2.2.2)).bind fun r16 =>
 some (r16.1,r16.2.1,r16.2.2.1,r16.2.2.2.1,r16.2.2.2.2.1,r16.2.2.2.2.2.1,r16.2.2.2.2.2.2)
 else
 (Z33 (x.1.1,r14.1,r14.2.1,r14.2.2.1,r14.2.2.2.1,r14.2.2.2.2.1,r14.2.2.2.2.2.1,(List.set r14.2.2.2.2.2.2.1 (toN x.2.1.2.1) r15.1),r14.2.2.2.2.2.2.2)).bind fun r16 =>
 some (r16.1,r16.2.1,r16.2.2.1,r16.2.2.2.1,r16.2.2.2.2.1,r16.2.2.2.2.2.1,r16.2.2.2.2.2.2)
 else
 none
 else
 none
abbrev Zp9:=Spec.shp Zhj Zle Z1w
def Zb0:Ctx:={ tb:=mkTb T2.tbl,fx:=[(40,[],Zpv),(129,[],Zq0),(125,[],Zpx),(120,[],Zpc),(130,[],Zpu)],sum:=[],nt:=67,pin:=1,nr:=true,ys:=[] }
theorem Z1x:Sound Tryz.prog 71 (Zp9) :=
 Sound.shp (C:=Zb0) (fn:=Tryz.f71) (by kernel_rfl) (c:=bodyOf Tryz.f71) (by kernel_rfl) (by decide) (ctxOK mixed tbl_ok rfl ⟨Z36,Z3g,Z3a,Z23,Z34,trivial⟩ trivial) (SumOK.of trivial) (by kernel_rfl) Zhj Zle rfl (by decide) (by decide) rfl (by decide) rfl Z1w (fun x=>by kernel_rfl)
abbrev Zib:Shape:={ sl:=[(0,(.hole y23)),(1,(.hole (.int .i64)))],bl:=[],ts:=[y23,(.int .i64)],pin:=0 }
abbrev Zm6:Shape:={ sl:=[(0,(.hole y23)),(1,(.hole (.slice y5))),(2,(.hole (.int .i64)))],bl:=[],ts:=[y23,(.slice y5),(.int .i64)],pin:=0 }
def Z3h (x:((Int × T13) × Int)):Option ((Int × T13) × List (T7) × Int) :=
 (Z3j x.1).bind fun r15 =>
 bif (Bool.not r15) then
 some (((0:Int),(0:Int),([]:List T7)),([]:List T7),(1:Int))
 else
 bif (decide (x.2 < (0:Int))) then
 some (((0:Int),(0:Int),([]:List T7)),([]:List T7),(1:Int))
 else
 bif (x.1.1 != (1:Int)) then
 some (((0:Int),(0:Int),([]:List T7)),([]:List T7),(6:Int))
 else
 bif (x.1.2.1 != x.2) then
 some (((0:Int),(0:Int),([]:List T7)),([]:List T7),(6:Int))
 else
 some (((2:Int),(0:Int),([]:List T7)),x.1.2.2,(0:Int))
abbrev Zq1:=Spec.shp Zib Zm6 Z3h
def Zbw:Ctx:={ tb:=mkTb T2.tbl,fx:=[(118,[],Zq2)],sum:=[],nt:=30,pin:=0,nr:=true,ys:=[] }
theorem Z3i:Sound Tryz.prog 131 (Zq1) :=
 Sound.shp (C:=Zbw) (fn:=Tryz.f131) (by kernel_rfl) (c:=bodyOf Tryz.f131) (by kernel_rfl) (by decide) (ctxOK mixed tbl_ok rfl ⟨Z3k,trivial⟩ trivial) (SumOK.of trivial) (by kernel_rfl) Zib Zm6 rfl (by decide) (by decide) rfl (by decide) rfl Z3h (fun x=>by kernel_rfl)
abbrev Zfw:Shape:={ sl:=[(0,(.ptr 0 [])),(52,(.hole (.slice y5))),(53,(.hole (.int .i64))),(54,(.hole (.int .i64)))],bl:=bl_2,ts:=[(.slice y5),(.int .i64),(.int .i64),y39,y4,y18,y41,y19,y26,y27],pin:=1 }
abbrev Zey:List (ETag × Shape):=[(.exit 0,{ sl:=[],bl:=bl_2,ts:=ts_11,pin:=1 })]
def Z8d (x:(List (T7) × Int × Int × T47 × (Int × Int) × List (T17) × List T43 × List (T18) × List T29 × List (T20))):Option ((List (T7) × Int × Int × T47 × (Int × Int) × List (T17) × List T43 × List (T18) × List T29 × List (T20)) ⊕ (T57)) :=
 bif (decide (x.2.2.1 < x.2.1)) then
 bif (inb x.2.2.1 (List.length x.1)) then
 (Z33 ((getAt ((0:Int),(0:Int),(0:Int)) x.1 (toN x.2.2.1)).1,(getAt ((0:Int),(0:Int),(0:Int)) x.1 (toN x.2.2.1)).2.2,x.2.2.2.1,x.2.2.2.2.1,x.2.2.2.2.2.1,x.2.2.2.2.2.2.1,x.2.2.2.2.2.2.2.1,x.2.2.2.2.2.2.2.2.1,x.2.2.2.2.2.2.2.2.2)).bind fun r18 =>
 some (.inl (x.1,x.2.1,(IntKind.wrap .i64 (x.2.2.1+(1:Int))),r18.1,r18.2.1,r18.2.2.1,r18.2.2.2.1,r18.2.2.2.2.1,r18.2.2.2.2.2.1,r18.2.2.2.2.2.2))
 else
 none
 else
 some (.inr (x.2.2.2.1,x.2.2.2.2.1,x.2.2.2.2.2.1,x.2.2.2.2.2.2.1,x.2.2.2.2.2.2.2.1,x.2.2.2.2.2.2.2.2.1,x.2.2.2.2.2.2.2.2.2))
def Zb4:Ctx:={ tb:=mkTb T2.tbl,fx:=[(131,[],Zq1),(40,[],Zpv),(120,[],Zpc),(130,[],Zpu)],sum:=[],nt:=65,pin:=1,nr:=true,ys:=[] }
theorem Z8e:CSound Tryz.prog ⟨65,1,true⟩ (.loop (loopOf 9 Tryz.f72)) (Yaz Zfw Zey (loop Z8d)) :=
 Y8f (C:=Zb4) (ctxOK mixed tbl_ok rfl ⟨Z3i,Z36,Z23,Z34,trivial⟩ trivial) (SumOK.of trivial) Zfw Zey rfl rfl Z8d (fun x=>by kernel_rfl)
abbrev Zhl:Shape:={ sl:=sl_26,bl:=bl_2,ts:=ts_14,pin:=0 }
abbrev Zlg:Shape:={ sl:=[],bl:=bl_2,ts:=ts_11,pin:=1 }
def Z20 (x:T60):Option T57 :=
 bif (inb x.2.1.2.1 (List.length x.2.2.2.2.2.2.2.1)) then
 (Z3h ((getAt ((0:Int),(0:Int),([]:List T7)) x.2.2.2.2.2.2.2.1 (toN x.2.1.2.1)),x.1.1)).bind fun r14 =>
 bif (r14.2.2 != (0:Int)) then
 some (x.2.2.1,(x.2.2.2.1.1,(3:Int)),x.2.2.2.2.1,x.2.2.2.2.2.1,x.2.2.2.2.2.2.1,x.2.2.2.2.2.2.2.1,x.2.2.2.2.2.2.2.2)
 else
 bif (inb x.2.1.2.1 (List.length x.2.2.2.2.2.2.2.1)) then
 (Z35 (x.1.1,(14:Int),x.2.1.2.1,(0:Int),(Int.negSucc 0),x.2.2.1,x.2.2.2.1,x.2.2.2.2.1,x.2.2.2.2.2.1,x.2.2.2.2.2.2.1,(List.set x.2.2.2.2.2.2.2.1 (toN x.2.1.2.1) r14.1),x.2.2.2.2.2.2.2.2)).bind fun r15 =>
 (Z22 (x.1.1,r15.2.1,r15.2.2.1,r15.2.2.2.1,r15.2.2.2.2.1,r15.2.2.2.2.2.1,r15.2.2.2.2.2.2.1,r15.2.2.2.2.2.2.2)).bind fun r16 =>
 (loop Z8d (r14.2.1,(((List.length r14.2.1):Nat):Int),(0:Int),r16.1,r16.2.1,r16.2.2.1,r16.2.2.2.1,r16.2.2.2.2.1,r16.2.2.2.2.2.1,r16.2.2.2.2.2.2)).bind fun r17 =>
 some (r17.1,r17.2.1,r17.2.2.1,r17.2.2.2.1,r17.2.2.2.2.1,r17.2.2.2.2.2.1,r17.2.2.2.2.2.2)
 else
 none
 else
 none
abbrev Zpb:=Spec.shp Zhl Zlg Z20
def Zb3:Ctx:={ tb:=mkTb T2.tbl,fx:=[(131,[],Zq1),(40,[],Zpv),(120,[],Zpc),(130,[],Zpu)],sum:=[(0,9,Yaz Zfw Zey (loop Z8d))],nt:=65,pin:=1,nr:=true,ys:=[] }
theorem Z21:Sound Tryz.prog 72 (Zpb) :=
 Sound.shp (C:=Zb3) (fn:=Tryz.f72) (by kernel_rfl) (c:=bodyOf Tryz.f72) (by kernel_rfl) (by decide) (ctxOK mixed tbl_ok rfl ⟨Z3i,Z36,Z23,Z34,trivial⟩ trivial) (SumOK.of ⟨(Yb1 (d:=.loop (loopOf 9 Tryz.f72)) (by kernel_rfl) Z8e),trivial⟩) (by kernel_rfl) Zhl Zlg rfl (by decide) (by decide) rfl (by decide) rfl Z20 (fun x=>by kernel_rfl)
abbrev Zhi:Shape:={ sl:=sl_26,bl:=bl_2,ts:=ts_14,pin:=0 }
abbrev Zld:Shape:={ sl:=[],bl:=bl_2,ts:=ts_11,pin:=1 }
def Z1u (x:T60):Option T57 :=
 bif ((((List.length x.2.2.2.2.1):Nat):Int) == (8:Int)) then
 some (x.2.2.1,(x.2.2.2.1.1,(4:Int)),x.2.2.2.2.1,x.2.2.2.2.2.1,x.2.2.2.2.2.2.1,x.2.2.2.2.2.2.2.1,x.2.2.2.2.2.2.2.2)
 else
 (Z35 (x.1.1,(1:Int),(((List.length x.2.2.2.2.1):Nat):Int),(0:Int),(Int.negSucc 0),x.2.2.1,x.2.2.2.1,x.2.2.2.2.1,x.2.2.2.2.2.1,x.2.2.2.2.2.2.1,x.2.2.2.2.2.2.2.1,x.2.2.2.2.2.2.2.2)).bind fun r14 =>
 (Z35 ((((List.length x.2.2.2.2.1):Nat):Int),(0:Int),(0:Int),(0:Int),r14.1,r14.2.1,r14.2.2.1,r14.2.2.2.1,r14.2.2.2.2.1,r14.2.2.2.2.2.1,r14.2.2.2.2.2.2.1,r14.2.2.2.2.2.2.2)).bind fun r15 =>
 bif (fits ((List.length r15.2.2.2.1)+(List.length ((x.2.1.2.1,(0:Int),(0:Int),false) :: ([]:List T17))))) then
 (Z24 ((((List.length x.2.2.2.2.1):Nat):Int),(0:Int),r15.2.1,r15.2.2.1,(r15.2.2.2.1++((x.2.1.2.1,(0:Int),(0:Int),false) :: ([]:List T17))),r15.2.2.2.2.1,r15.2.2.2.2.2.1,r15.2.2.2.2.2.2.1,r15.2.2.2.2.2.2.2)).bind fun r16 =>
 (Z22 (x.1.1,r16.1,r16.2.1,r16.2.2.1,r16.2.2.2.1,r16.2.2.2.2.1,r16.2.2.2.2.2.1,r16.2.2.2.2.2.2)).bind fun r17 =>
 some (r17.1,r17.2.1,r17.2.2.1,r17.2.2.2.1,r17.2.2.2.2.1,r17.2.2.2.2.2.1,r17.2.2.2.2.2.2)
 else
 none
abbrev Zp8:=Spec.shp Zhi Zld Z1u
def Zaz:Ctx:={ tb:=mkTb T2.tbl,fx:=[(40,[],Zpv),(41,[],Zpd),(120,[],Zpc)],sum:=[],nt:=50,pin:=1,nr:=true,ys:=[] }
theorem Z1v:Sound Tryz.prog 73 (Zp8) :=
 Sound.shp (C:=Zaz) (fn:=Tryz.f73) (by kernel_rfl) (c:=bodyOf Tryz.f73) (by kernel_rfl) (by decide) (ctxOK mixed tbl_ok rfl ⟨Z36,Z25,Z23,trivial⟩ trivial) (SumOK.of trivial) (by kernel_rfl) Zhi Zld rfl (by decide) (by decide) rfl (by decide) rfl Z1u (fun x=>by kernel_rfl)
abbrev Zhw:Shape:={ sl:=sl_26,bl:=bl_2,ts:=ts_14,pin:=0 }
abbrev Zlr:Shape:={ sl:=[],bl:=bl_2,ts:=ts_11,pin:=1 }
def Z2m (x:T60):Option T57 :=
 (Z35 (x.1.1,(16:Int),x.2.1.2.1,(0:Int),(Int.negSucc 0),x.2.2.1,x.2.2.2.1,x.2.2.2.2.1,x.2.2.2.2.2.1,x.2.2.2.2.2.2.1,x.2.2.2.2.2.2.2.1,x.2.2.2.2.2.2.2.2)).bind fun r14 =>
 (Z22 (x.1.1,r14.2.1,r14.2.2.1,r14.2.2.2.1,r14.2.2.2.2.1,r14.2.2.2.2.2.1,r14.2.2.2.2.2.2.1,r14.2.2.2.2.2.2.2)).bind fun r15 =>
 some (r15.1,r15.2.1,r15.2.2.1,r15.2.2.2.1,r15.2.2.2.2.1,r15.2.2.2.2.2.1,r15.2.2.2.2.2.2)
abbrev Zpm:=Spec.shp Zhw Zlr Z2m
def Zbf:Ctx:={ tb:=mkTb T2.tbl,fx:=[(40,[],Zpv),(120,[],Zpc)],sum:=[],nt:=16,pin:=1,nr:=true,ys:=[] }
theorem Z2n:Sound Tryz.prog 74 (Zpm) :=
 Sound.shp (C:=Zbf) (fn:=Tryz.f74) (by kernel_rfl) (c:=bodyOf Tryz.f74) (by kernel_rfl) (by decide) (ctxOK mixed tbl_ok rfl ⟨Z36,Z23,trivial⟩ trivial) (SumOK.of trivial) (by kernel_rfl) Zhw Zlr rfl (by decide) (by decide) rfl (by decide) rfl Z2m (fun x=>by kernel_rfl)
abbrev Zi8:Shape:={ sl:=sl_26,bl:=bl_2,ts:=ts_14,pin:=0 }
abbrev Zm3:Shape:={ sl:=[],bl:=bl_2,ts:=ts_11,pin:=1 }
def Z3b (x:T60):Option T57 :=
 (Z35 (x.1.1,(17:Int),x.2.1.2.1,(0:Int),(Int.negSucc 0),x.2.2.1,x.2.2.2.1,x.2.2.2.2.1,x.2.2.2.2.2.1,x.2.2.2.2.2.2.1,x.2.2.2.2.2.2.2.1,x.2.2.2.2.2.2.2.2)).bind fun r14 =>
 (Z22 (x.1.1,r14.2.1,r14.2.2.1,r14.2.2.2.1,r14.2.2.2.2.1,r14.2.2.2.2.2.1,r14.2.2.2.2.2.2.1,r14.2.2.2.2.2.2.2)).bind fun r15 =>
 some (r15.1,r15.2.1,r15.2.2.1,r15.2.2.2.1,r15.2.2.2.2.1,r15.2.2.2.2.2.1,r15.2.2.2.2.2.2)
abbrev Zpy:=Spec.shp Zi8 Zm3 Z3b
def Zbt:Ctx:={ tb:=mkTb T2.tbl,fx:=[(40,[],Zpv),(120,[],Zpc)],sum:=[],nt:=16,pin:=1,nr:=true,ys:=[] }
theorem Z3c:Sound Tryz.prog 75 (Zpy) :=
 Sound.shp (C:=Zbt) (fn:=Tryz.f75) (by kernel_rfl) (c:=bodyOf Tryz.f75) (by kernel_rfl) (by decide) (ctxOK mixed tbl_ok rfl ⟨Z36,Z23,trivial⟩ trivial) (SumOK.of trivial) (by kernel_rfl) Zi8 Zm3 rfl (by decide) (by decide) rfl (by decide) rfl Z3b (fun x=>by kernel_rfl)
abbrev Zhp:Shape:={ sl:=sl_26,bl:=bl_2,ts:=ts_14,pin:=0 }
abbrev Zlk:Shape:={ sl:=[],bl:=bl_2,ts:=ts_11,pin:=1 }
def Z28 (x:T60):Option T57 :=
 (Z24 (x.1.1,x.2.1.2.1,x.2.2.1,x.2.2.2.1,x.2.2.2.2.1,x.2.2.2.2.2.1,x.2.2.2.2.2.2.1,x.2.2.2.2.2.2.2.1,x.2.2.2.2.2.2.2.2)).bind fun r14 =>
 some (r14.1,r14.2.1,r14.2.2.1,r14.2.2.2.1,r14.2.2.2.2.1,r14.2.2.2.2.2.1,r14.2.2.2.2.2.2)
abbrev Zpf:=Spec.shp Zhp Zlk Z28
def Zb8:Ctx:={ tb:=mkTb T2.tbl,fx:=[(41,[],Zpd)],sum:=[],nt:=12,pin:=1,nr:=true,ys:=[] }
theorem Z29:Sound Tryz.prog 76 (Zpf) :=
 Sound.shp (C:=Zb8) (fn:=Tryz.f76) (by kernel_rfl) (c:=bodyOf Tryz.f76) (by kernel_rfl) (by decide) (ctxOK mixed tbl_ok rfl ⟨Z25,trivial⟩ trivial) (SumOK.of trivial) (by kernel_rfl) Zhp Zlk rfl (by decide) (by decide) rfl (by decide) rfl Z28 (fun x=>by kernel_rfl)
abbrev Zhu:Shape:={ sl:=sl_26,bl:=bl_2,ts:=ts_14,pin:=0 }
abbrev Zlp:Shape:={ sl:=[],bl:=bl_2,ts:=ts_11,pin:=1 }
def Z2i (x:T60):Option T57 :=
 bif (inb x.1.1 (List.length x.2.2.2.2.1)) then
 bif (getAt ((0:Int),(0:Int),(0:Int),false) x.2.2.2.2.1 (toN x.1.1)).2.2.2 then
 (Z28 (x.1,x.2.1,x.2.2.1,x.2.2.2.1,x.2.2.2.2.1,x.2.2.2.2.2.1,x.2.2.2.2.2.2.1,x.2.2.2.2.2.2.2.1,x.2.2.2.2.2.2.2.2)).bind fun r14 =>
 some (r14.1,r14.2.1,r14.2.2.1,r14.2.2.2.1,r14.2.2.2.2.1,r14.2.2.2.2.2.1,r14.2.2.2.2.2.2)
 else
 (Z22 (x.1.1,x.2.2.1,x.2.2.2.1,x.2.2.2.2.1,x.2.2.2.2.2.1,x.2.2.2.2.2.2.1,x.2.2.2.2.2.2.2.1,x.2.2.2.2.2.2.2.2)).bind fun r14 =>
 some (r14.1,r14.2.1,r14.2.2.1,r14.2.2.2.1,r14.2.2.2.2.1,r14.2.2.2.2.2.1,r14.2.2.2.2.2.2)
 else
 none
abbrev Zpk:=Spec.shp Zhu Zlp Z2i
def Zbd:Ctx:={ tb:=mkTb T2.tbl,fx:=[(76,[],Zpf),(120,[],Zpc)],sum:=[],nt:=24,pin:=1,nr:=true,ys:=[] }
theorem Z2j:Sound Tryz.prog 77 (Zpk) :=
 Sound.shp (C:=Zbd) (fn:=Tryz.f77) (by kernel_rfl) (c:=bodyOf Tryz.f77) (by kernel_rfl) (by decide) (ctxOK mixed tbl_ok rfl ⟨Z29,Z23,trivial⟩ trivial) (SumOK.of trivial) (by kernel_rfl) Zhu Zlp rfl (by decide) (by decide) rfl (by decide) rfl Z2i (fun x=>by kernel_rfl)
abbrev Zh8:Shape:={ sl:=[(0,(.hole y45)),(1,(.hole y4))],bl:=[],ts:=[y45,y4],pin:=0 }
abbrev Zl3:Shape:={ sl:=[(0,(.hole y45)),(1,(.hole y27)),(2,(.hole (.int .i64)))],bl:=[],ts:=[y45,y27,(.int .i64)],pin:=0 }
def Z1a (x:((T47 × T61) × (Int × Int))):Option ((T47 × T61) × List (T20) × Int) :=
 (Z16 x.1).bind fun r6 =>
 (Z6p (r6,x.2)).bind fun r7 =>
 bif (Bool.not r7) then
 some (((([]:List Int),(0:Int),(0:Int),(0:Int),([]:List T21),([]:List (List T7))),([]:List T17),([]:List (Int × T41)),([]:List T22),([]:List (Int × T14)),(0:Int),(0:Int)),([]:List T20),(4:Int))
 else
 (Z61 x.1.2.1).bind fun r8 =>
 (Z5x x.1.2.2.1).bind fun r9 =>
 (Z63 x.1.2.2.2.1).bind fun r10 =>
 (Z65 x.1.2.2.2.2.1).bind fun r11 =>
 (Z26 (x.2.1,x.1.1,x.1.2.2.2.2.2,r8,r9,r10,r11,([]:List T20))).bind fun r12 =>
 bif (r12.1.1 == (((0:Nat):Nat):Int)) then
 (Z2e (x.2,r12.1,r12.2.1,r12.2.2.1,r12.2.2.2.1,r12.2.2.2.2.1,r12.2.2.2.2.2.1,r12.2.2.2.2.2.2.1,r12.2.2.2.2.2.2.2)).bind fun r13 =>
 (Z2u (r13.1,r13.2.1,r13.2.2.1,r13.2.2.2.1,r13.2.2.2.2.1,r13.2.2.2.2.2.1,r13.2.2.2.2.2.2)).bind fun r14 =>
 some ((r14.1,r14.2.2.1,r14.2.2.2.1,r14.2.2.2.2.1,r14.2.2.2.2.2.1,r14.2.1),r14.2.2.2.2.2.2,(0:Int))
 else
 bif (r12.1.1 == ((((0:Nat)+(1:Nat)):Nat):Int)) then
 (Z2s (x.2,r12.1,r12.2.1,r12.2.2.1,r12.2.2.2.1,r12.2.2.2.2.1,r12.2.2.2.2.2.1,r12.2.2.2.2.2.2.1,r12.2.2.2.2.2.2.2)).bind fun r13 =>
 (Z2u (r13.1,r13.2.1,r13.2.2.1,r13.2.2.2.1,r13.2.2.2.2.1,r13.2.2.2.2.2.1,r13.2.2.2.2.2.2)).bind fun r14 =>
 some ((r14.1,r14.2.2.1,r14.2.2.2.1,r14.2.2.2.2.1,r14.2.2.2.2.2.1,r14.2.1),r14.2.2.2.2.2.2,(0:Int))
 else
 bif (r12.1.1 == (((((0:Nat)+(1:Nat))+(1:Nat)):Nat):Int)) then
 (Z2o (x.2,r12.1,r12.2.1,r12.2.2.1,r12.2.2.2.1,r12.2.2.2.2.1,r12.2.2.2.2.2.1,r12.2.2.2.2.2.2.1,r12.2.2.2.2.2.2.2)).bind fun r13 =>
 (Z2u (r13.1,r13.2.1,r13.2.2.1,r13.2.2.2.1,r13.2.2.2.2.1,r13.2.2.2.2.2.1,r13.2.2.2.2.2.2)).bind fun r14 =>
 some ((r14.1,r14.2.2.1,r14.2.2.2.1,r14.2.2.2.2.1,r14.2.2.2.2.2.1,r14.2.1),r14.2.2.2.2.2.2,(0:Int))
 else
 bif (r12.1.1 == ((((((0:Nat)+(1:Nat))+(1:Nat))+(1:Nat)):Nat):Int)) then
 (Z31 (x.2,r12.1,r12.2.1,r12.2.2.1,r12.2.2.2.1,r12.2.2.2.2.1,r12.2.2.2.2.2.1,r12.2.2.2.2.2.2.1,r12.2.2.2.2.2.2.2)).bind fun r13 =>
 (Z2u (r13.1,r13.2.1,r13.2.2.1,r13.2.2.2.1,r13.2.2.2.2.1,r13.2.2.2.2.2.1,r13.2.2.2.2.2.2)).bind fun r14 =>
 some ((r14.1,r14.2.2.1,r14.2.2.2.1,r14.2.2.2.2.1,r14.2.2.2.2.2.1,r14.2.1),r14.2.2.2.2.2.2,(0:Int))
 else
 bif (r12.1.1 == (((((((0:Nat)+(1:Nat))+(1:Nat))+(1:Nat))+(1:Nat)):Nat):Int)) then
 (Z2q (x.2,r12.1,r12.2.1,r12.2.2.1,r12.2.2.2.1,r12.2.2.2.2.1,r12.2.2.2.2.2.1,r12.2.2.2.2.2.2.1,r12.2.2.2.2.2.2.2)).bind fun r13 =>
 (Z2u (r13.1,r13.2.1,r13.2.2.1,r13.2.2.2.1,r13.2.2.2.2.1,r13.2.2.2.2.2.1,r13.2.2.2.2.2.2)).bind fun r14 =>
 some ((r14.1,r14.2.2.1,r14.2.2.2.1,r14.2.2.2.2.1,r14.2.2.2.2.2.1,r14.2.1),r14.2.2.2.2.2.2,(0:Int))
 else
 bif (r12.1.1 == ((((((((0:Nat)+(1:Nat))+(1:Nat))+(1:Nat))+(1:Nat))+(1:Nat)):Nat):Int)) then
 (Z2a (x.2,r12.1,r12.2.1,r12.2.2.1,r12.2.2.2.1,r12.2.2.2.2.1,r12.2.2.2.2.2.1,r12.2.2.2.2.2.2.1,r12.2.2.2.2.2.2.2)).bind fun r13 =>
 (Z2u (r13.1,r13.2.1,r13.2.2.1,r13.2.2.2.1,r13.2.2.2.2.1,r13.2.2.2.2.2.1,r13.2.2.2.2.2.2)).bind fun r14 =>
 some ((r14.1,r14.2.2.1,r14.2.2.2.1,r14.2.2.2.2.1,r14.2.2.2.2.2.1,r14.2.1),r14.2.2.2.2.2.2,(0:Int))
 else
 bif (r12.1.1 == (((((((((0:Nat)+(1:Nat))+(1:Nat))+(1:Nat))+(1:Nat))+(1:Nat))+(1:Nat)):Nat):Int)) then
 (Z37 (x.2,r12.1,r12.2.1,r12.2.2.1,r12.2.2.2.1,r12.2.2.2.2.1,r12.2.2.2.2.2.1,r12.2.2.2.2.2.2.1,r12.2.2.2.2.2.2.2)).bind fun r13 =>
 (Z2u (r13.1,r13.2.1,r13.2.2.1,r13.2.2.2.1,r13.2.2.2.2.1,r13.2.2.2.2.2.1,r13.2.2.2.2.2.2)).bind fun r14 =>
 some ((r14.1,r14.2.2.1,r14.2.2.2.1,r14.2.2.2.2.1,r14.2.2.2.2.2.1,r14.2.1),r14.2.2.2.2.2.2,(0:Int))
 else
 bif (r12.1.1 == ((((((((((0:Nat)+(1:Nat))+(1:Nat))+(1:Nat))+(1:Nat))+(1:Nat))+(1:Nat))+(1:Nat)):Nat):Int)) then
 (Z1w (x.2,r12.1,r12.2.1,r12.2.2.1,r12.2.2.2.1,r12.2.2.2.2.1,r12.2.2.2.2.2.1,r12.2.2.2.2.2.2.1,r12.2.2.2.2.2.2.2)).bind fun r13 =>
 (Z2u (r13.1,r13.2.1,r13.2.2.1,r13.2.2.2.1,r13.2.2.2.2.1,r13.2.2.2.2.2.1,r13.2.2.2.2.2.2)).bind fun r14 =>
 some ((r14.1,r14.2.2.1,r14.2.2.2.1,r14.2.2.2.2.1,r14.2.2.2.2.2.1,r14.2.1),r14.2.2.2.2.2.2,(0:Int))
 else
 bif (r12.1.1 == (((((((((((0:Nat)+(1:Nat))+(1:Nat))+(1:Nat))+(1:Nat))+(1:Nat))+(1:Nat))+(1:Nat))+(1:Nat)):Nat):Int)) then
 (Z20 (x.2,r12.1,r12.2.1,r12.2.2.1,r12.2.2.2.1,r12.2.2.2.2.1,r12.2.2.2.2.2.1,r12.2.2.2.2.2.2.1,r12.2.2.2.2.2.2.2)).bind fun r13 =>
 (Z2u (r13.1,r13.2.1,r13.2.2.1,r13.2.2.2.1,r13.2.2.2.2.1,r13.2.2.2.2.2.1,r13.2.2.2.2.2.2)).bind fun r14 =>
 some ((r14.1,r14.2.2.1,r14.2.2.2.1,r14.2.2.2.2.1,r14.2.2.2.2.2.1,r14.2.1),r14.2.2.2.2.2.2,(0:Int))
 else
 bif (r12.1.1 == ((((((((((((0:Nat)+(1:Nat))+(1:Nat))+(1:Nat))+(1:Nat))+(1:Nat))+(1:Nat))+(1:Nat))+(1:Nat))+(1:Nat)):Nat):Int)) then
 (Z1u (x.2,r12.1,r12.2.1,r12.2.2.1,r12.2.2.2.1,r12.2.2.2.2.1,r12.2.2.2.2.2.1,r12.2.2.2.2.2.2.1,r12.2.2.2.2.2.2.2)).bind fun r13 =>
 (Z2u (r13.1,r13.2.1,r13.2.2.1,r13.2.2.2.1,r13.2.2.2.2.1,r13.2.2.2.2.2.1,r13.2.2.2.2.2.2)).bind fun r14 =>
 some ((r14.1,r14.2.2.1,r14.2.2.2.1,r14.2.2.2.2.1,r14.2.2.2.2.2.1,r14.2.1),r14.2.2.2.2.2.2,(0:Int))
 else
 bif (r12.1.1 == (((((((((((((0:Nat)+(1:Nat))+(1:Nat))+(1:Nat))+(1:Nat))+(1:Nat))+(1:Nat))+(1:Nat))+(1:Nat))+(1:Nat))+(1:Nat)):Nat):Int)) then
 (Z2m (x.2,r12.1,r12.2.1,r12.2.2.1,r12.2.2.2.1,r12.2.2.2.2.1,r12.2.2.2.2.2.1,r12.2.2.2.2.2.2.1,r12.2.2.2.2.2.2.2)).bind fun r13 =>
 (Z2u (r13.1,r13.2.1,r13.2.2.1,r13.2.2.2.1,r13.2.2.2.2.1,r13.2.2.2.2.2.1,r13.2.2.2.2.2.2)).bind fun r14 =>
 some ((r14.1,r14.2.2.1,r14.2.2.2.1,r14.2.2.2.2.1,r14.2.2.2.2.2.1,r14.2.1),r14.2.2.2.2.2.2,(0:Int))
 else
 bif (r12.1.1 == ((((((((((((((0:Nat)+(1:Nat))+(1:Nat))+(1:Nat))+(1:Nat))+(1:Nat))+(1:Nat))+(1:Nat))+(1:Nat))+(1:Nat))+(1:Nat))+(1:Nat)):Nat):Int)) then
 (Z3b (x.2,r12.1,r12.2.1,r12.2.2.1,r12.2.2.2.1,r12.2.2.2.2.1,r12.2.2.2.2.2.1,r12.2.2.2.2.2.2.1,r12.2.2.2.2.2.2.2)).bind fun r13 =>
 (Z2u (r13.1,r13.2.1,r13.2.2.1,r13.2.2.2.1,r13.2.2.2.2.1,r13.2.2.2.2.2.1,r13.2.2.2.2.2.2)).bind fun r14 =>
 some ((r14.1,r14.2.2.1,r14.2.2.2.1,r14.2.2.2.2.1,r14.2.2.2.2.2.1,r14.2.1),r14.2.2.2.2.2.2,(0:Int))
 else
 bif (r12.1.1 == (((((((((((((((0:Nat)+(1:Nat))+(1:Nat))+(1:Nat))+(1:Nat))+(1:Nat))+(1:Nat))+(1:Nat))+(1:Nat))+(1:Nat))+(1:Nat))+(1:Nat))+(1:Nat)):Nat):Int)) then
 (Z28 (x.2,r12.1,r12.2.1,r12.2.2.1,r12.2.2.2.1,r12.2.2.2.2.1,r12.2.2.2.2.2.1,r12.2.2.2.2.2.2.1,r12.2.2.2.2.2.2.2)).bind fun r13 =>
 (Z2u (r13.1,r13.2.1,r13.2.2.1,r13.2.2.2.1,r13.2.2.2.2.1,r13.2.2.2.2.2.1,r13.2.2.2.2.2.2)).bind fun r14 =>
 some ((r14.1,r14.2.2.1,r14.2.2.2.1,r14.2.2.2.2.1,r14.2.2.2.2.2.1,r14.2.1),r14.2.2.2.2.2.2,(0:Int))
 else
 bif (r12.1.1 == ((((((((((((((((0:Nat)+(1:Nat))+(1:Nat))+(1:Nat))+(1:Nat))+(1:Nat))+(1:Nat))+(1:Nat))+(1:Nat))+(1:Nat))+(1:Nat))+(1:Nat))+(1:Nat))+(1:Nat)):Nat):Int)) then
 (Z2i (x.2,r12.1,r12.2.1,r12.2.2.1,r12.2.2.2.1,r12.2.2.2.2.1,r12.2.2.2.2.2.1,r12.2.2.2.2.2.2.1,r12.2.2.2.2.2.2.2)).bind fun r13 =>
 (Z2u (r13.1,r13.2.1,r13.2.2.1,r13.2.2.2.1,r13.2.2.2.2.1,r13.2.2.2.2.2.1,r13.2.2.2.2.2.2)).bind fun r14 =>
 some ((r14.1,r14.2.2.1,r14.2.2.2.1,r14.2.2.2.2.1,r14.2.2.2.2.2.1,r14.2.1),r14.2.2.2.2.2.2,(0:Int))
 else
 none
abbrev Zoy:=Spec.shp Zh8 Zl3 Z1a
def Zal:Ctx:={ tb:=mkTb T2.tbl,fx:=[(22,[],Zow),(59,[],Zrl),(60,[],Zr9),(61,[],Zr7),(62,[],Zra),(63,[],Zrb),(78,[],Zpe),(64,[],Zpi),(42,[],Zpq),(65,[],Zpp),(66,[],Zpn),(67,[],Zpt),(68,[],Zpo),(69,[],Zpg),(70,[],Zpw),(71,[],Zp9),(72,[],Zpb),(73,[],Zp8),(74,[],Zpm),(75,[],Zpy),(76,[],Zpf),(77,[],Zpk)],sum:=[],nt:=70,pin:=0,nr:=true,ys:=[] }
theorem Z1b:Sound Tryz.prog 23 (Zoy) :=
 Sound.shp (C:=Zal) (fn:=Tryz.f23) (by kernel_rfl) (c:=bodyOf Tryz.f23) (by kernel_rfl) (by decide) (ctxOK mixed tbl_ok rfl ⟨Z17,Z6q,Z62,Z5y,Z64,Z66,Z27,Z2f,Z30,Z2t,Z2p,Z32,Z2r,Z2b,Z38,Z1x,Z21,Z1v,Z2n,Z3c,Z29,Z2j,trivial⟩ trivial) (SumOK.of trivial) (by kernel_rfl) Zh8 Zl3 rfl (by decide) (by decide) rfl (by decide) rfl Z1a (fun x=>by kernel_rfl)
def Z8k (x:T55):Option (T55 ⊕ (T47 × Int × Int × Int × List (T12))) :=
 bif (decide (x.2.2.1 < x.2.1)) then
 bif (inb x.2.2.1 (List.length x.1)) then
 bif (sub3 (0:Int) (Min.min (((List.length (getAt (([]:List T0),false) x.1 (toN x.2.2.1)).1):Nat):Int) (6:Int)) (List.length (getAt (([]:List T0),false) x.1 (toN x.2.2.1)).1)) then
 bif (fits ((List.length x.2.2.2.2.2.2.2)+(List.length (((cut (getAt (([]:List T0),false) x.1 (toN x.2.2.1)).1 (toN (0:Int)) ((toN (Min.min (((List.length (getAt (([]:List T0),false) x.1 (toN x.2.2.1)).1):Nat):Int) (6:Int))) - (toN (0:Int)))),(getAt (([]:List T0),false) x.1 (toN x.2.2.1)).2) :: ([]:List T21))))) then
 some (.inl (x.1,x.2.1,(IntKind.wrap .i64 (x.2.2.1+(1:Int))),x.2.2.2.1,x.2.2.2.2.1,x.2.2.2.2.2.1,x.2.2.2.2.2.2.1,(x.2.2.2.2.2.2.2++(((cut (getAt (([]:List T0),false) x.1 (toN x.2.2.1)).1 (toN (0:Int)) ((toN (Min.min (((List.length (getAt (([]:List T0),false) x.1 (toN x.2.2.1)).1):Nat):Int) (6:Int))) - (toN (0:Int)))),(getAt (([]:List T0),false) x.1 (toN x.2.2.1)).2) :: ([]:List T21)))))
 else
 none
 else
 none
 else
 none
 else
 some (.inr (x.2.2.2.1,x.2.2.2.2.1,x.2.2.2.2.2.1,x.2.2.2.2.2.2.1,x.2.2.2.2.2.2.2))
def Z8j (x:T59):Option (T59 ⊕ (T47 × Int × Int × Int × List (T12) × List (List (T7)))) :=
 bif (decide (x.2.2.1 < x.2.1)) then
 bif (inb x.2.2.1 (List.length x.1)) then
 bif (sub3 (0:Int) (Min.min (((List.length (getAt ([]:List T7) x.1 (toN x.2.2.1))):Nat):Int) (30:Int)) (List.length (getAt ([]:List T7) x.1 (toN x.2.2.1)))) then
 bif (fits ((List.length x.2.2.2.2.2.2.2.2)+(List.length ((cut (getAt ([]:List T7) x.1 (toN x.2.2.1)) (toN (0:Int)) ((toN (Min.min (((List.length (getAt ([]:List T7) x.1 (toN x.2.2.1))):Nat):Int) (30:Int))) - (toN (0:Int)))) :: ([]:List (List T7)))))) then
 some (.inl (x.1,x.2.1,(IntKind.wrap .i64 (x.2.2.1+(1:Int))),x.2.2.2.1,x.2.2.2.2.1,x.2.2.2.2.2.1,x.2.2.2.2.2.2.1,x.2.2.2.2.2.2.2.1,(x.2.2.2.2.2.2.2.2++((cut (getAt ([]:List T7) x.1 (toN x.2.2.1)) (toN (0:Int)) ((toN (Min.min (((List.length (getAt ([]:List T7) x.1 (toN x.2.2.1))):Nat):Int) (30:Int))) - (toN (0:Int)))) :: ([]:List (List T7))))))
 else
 none
 else
 none
 else
 none
 else
 some (.inr (x.2.2.2.1,x.2.2.2.2.1,x.2.2.2.2.2.1,x.2.2.2.2.2.2.1,x.2.2.2.2.2.2.2.1,x.2.2.2.2.2.2.2.2))
def Z3r (x:(T47)):Option (T47) :=
 bif (sub3 (0:Int) (Min.min (((List.length x.1):Nat):Int) (6:Int)) (List.length x.1)) then
 bif (sub3 (0:Int) (Min.min (((List.length x.2.2.2.2.1):Nat):Int) (6:Int)) (List.length x.2.2.2.2.1)) then
 (loop Z8k ((cut x.2.2.2.2.1 (toN (0:Int)) ((toN (Min.min (((List.length x.2.2.2.2.1):Nat):Int) (6:Int))) - (toN (0:Int)))),(((List.length (cut x.2.2.2.2.1 (toN (0:Int)) ((toN (Min.min (((List.length x.2.2.2.2.1):Nat):Int) (6:Int))) - (toN (0:Int))))):Nat):Int),(0:Int),((cut x.1 (toN (0:Int)) ((toN (Min.min (((List.length x.1):Nat):Int) (6:Int))) - (toN (0:Int)))),x.2),(0:Int),(0:Int),(0:Int),([]:List T21))).bind fun r2 =>
 bif (sub3 (0:Int) (Min.min (((List.length r2.1.2.2.2.2.2):Nat):Int) (8:Int)) (List.length r2.1.2.2.2.2.2)) then
 (loop Z8j ((cut r2.1.2.2.2.2.2 (toN (0:Int)) ((toN (Min.min (((List.length r2.1.2.2.2.2.2):Nat):Int) (8:Int))) - (toN (0:Int)))),(((List.length (cut r2.1.2.2.2.2.2 (toN (0:Int)) ((toN (Min.min (((List.length r2.1.2.2.2.2.2):Nat):Int) (8:Int))) - (toN (0:Int))))):Nat):Int),(0:Int),r2.1,r2.2.1,r2.2.2.1,r2.2.2.2.1,r2.2.2.2.2,([]:List (List T7)))).bind fun r3 =>
 some (r3.1.1,r3.1.2.1,r3.1.2.2.1,r3.1.2.2.2.1,r3.2.2.2.2.1,r3.2.2.2.2.2)
 else
 none
 else
 none
 else
 none
def Z8r (x:T26):Option (T26 ⊕ ((Bool) ⊕ Unit)) :=
 bif (decide (x.2.2.2 < x.2.2.1)) then
 bif (inb x.2.2.2 (List.length x.1)) then
 bif (inb x.2.2.2 (List.length x.2.1)) then
 bif (Bool.not (((getAt ((0:Int),(0:Int),(0:Int)) x.1 (toN x.2.2.2)).1 == (getAt ((0:Int),(0:Int),(0:Int)) x.2.1 (toN x.2.2.2)).1) && (((getAt ((0:Int),(0:Int),(0:Int)) x.1 (toN x.2.2.2)).2.1 == (getAt ((0:Int),(0:Int),(0:Int)) x.2.1 (toN x.2.2.2)).2.1) && ((getAt ((0:Int),(0:Int),(0:Int)) x.1 (toN x.2.2.2)).2.2 == (getAt ((0:Int),(0:Int),(0:Int)) x.2.1 (toN x.2.2.2)).2.2)))) then
 some (.inr (.inl false))
 else
 some (.inl (x.1,x.2.1,x.2.2.1,(IntKind.wrap .i64 (x.2.2.2+(1:Int)))))
 else
 none
 else
 none
 else
 some (.inr (.inr ()))
def Z3y (x:T24):Option (Bool) :=
 bif ((((List.length x.1):Nat):Int) != (((List.length x.2):Nat):Int)) then
 some false
 else
 (loop Z8r (x.1,x.2,(((List.length x.1):Nat):Int),(0:Int))).bind fun r11 =>
 match r11 with
 | .inl y12 =>
 some y12
 | .inr y12 =>
 some true
abbrev Zg2:Shape:={ sl:=[(0,(.hole y27)),(1,(.hole y27)),(12,(.hole (.int .i64))),(13,(.hole (.int .i64)))],bl:=[],ts:=[y27,y27,(.int .i64),(.int .i64)],pin:=0 }
abbrev Zf4:List (ETag × Shape):=[(.ret,{ sl:=sl_35,bl:=[],ts:=ts_1,pin:=0 }),(.exit 0,{ sl:=[],bl:=[],ts:=[],pin:=0 })]
def Z8s (x:(List (T20) × List (T20) × Int × Int)):Option ((List (T20) × List (T20) × Int × Int) ⊕ ((Bool) ⊕ Unit)) :=
 bif (decide (x.2.2.2 < x.2.2.1)) then
 bif (inb x.2.2.2 (List.length x.1)) then
 bif (inb x.2.2.2 (List.length x.2.1)) then
 bif (Bool.not (((getAt ((0:Int),(0:Int),(0:Int),(0:Int),(0:Int)) x.1 (toN x.2.2.2)).1 == (getAt ((0:Int),(0:Int),(0:Int),(0:Int),(0:Int)) x.2.1 (toN x.2.2.2)).1) && (((getAt ((0:Int),(0:Int),(0:Int),(0:Int),(0:Int)) x.1 (toN x.2.2.2)).2.1 == (getAt ((0:Int),(0:Int),(0:Int),(0:Int),(0:Int)) x.2.1 (toN x.2.2.2)).2.1) && (((getAt ((0:Int),(0:Int),(0:Int),(0:Int),(0:Int)) x.1 (toN x.2.2.2)).2.2.1 == (getAt ((0:Int),(0:Int),(0:Int),(0:Int),(0:Int)) x.2.1 (toN x.2.2.2)).2.2.1) && (((getAt ((0:Int),(0:Int),(0:Int),(0:Int),(0:Int)) x.1 (toN x.2.2.2)).2.2.2.1 == (getAt ((0:Int),(0:Int),(0:Int),(0:Int),(0:Int)) x.2.1 (toN x.2.2.2)).2.2.2.1) && ((getAt ((0:Int),(0:Int),(0:Int),(0:Int),(0:Int)) x.1 (toN x.2.2.2)).2.2.2.2 == (getAt ((0:Int),(0:Int),(0:Int),(0:Int),(0:Int)) x.2.1 (toN x.2.2.2)).2.2.2.2)))))) then
 some (.inr (.inl false))
 else
 some (.inl (x.1,x.2.1,x.2.2.1,(IntKind.wrap .i64 (x.2.2.2+(1:Int)))))
 else
 none
 else
 none
 else
 some (.inr (.inr ()))
def Zc9:Ctx:={ tb:=mkTb T2.tbl,fx:=[],sum:=[],nt:=26,pin:=0,nr:=true,ys:=[] }
theorem Z8t:CSound Tryz.prog ⟨26,0,true⟩ (.loop (loopOf 5 Tryz.f19)) (Yaz Zg2 Zf4 (loop Z8s)) :=
 Y8f (C:=Zc9) (ctxOK mixed tbl_ok rfl trivial trivial) (SumOK.of trivial) Zg2 Zf4 rfl rfl Z8s (fun x=>by kernel_rfl)
abbrev Zij:Shape:={ sl:=[(0,(.hole y27)),(1,(.hole y27))],bl:=[],ts:=[y27,y27],pin:=0 }
abbrev Zme:Shape:={ sl:=sl_1,bl:=[],ts:=ts_1,pin:=0 }
def Z3z (x:(List (T20) × List (T20))):Option (Bool) :=
 bif ((((List.length x.1):Nat):Int) != (((List.length x.2):Nat):Int)) then
 some false
 else
 (loop Z8s (x.1,x.2,(((List.length x.1):Nat):Int),(0:Int))).bind fun r7 =>
 match r7 with
 | .inl y8 =>
 some y8
 | .inr y8 =>
 some true
abbrev Zq9:=Spec.shp Zij Zme Z3z
def Zc8:Ctx:={ tb:=mkTb T2.tbl,fx:=[],sum:=[(0,5,Yaz Zg2 Zf4 (loop Z8s))],nt:=26,pin:=0,nr:=true,ys:=[] }
theorem Z40:Sound Tryz.prog 19 (Zq9) :=
 Sound.shp (C:=Zc8) (fn:=Tryz.f19) (by kernel_rfl) (c:=bodyOf Tryz.f19) (by kernel_rfl) (by decide) (ctxOK mixed tbl_ok rfl trivial trivial) (SumOK.of ⟨(Yb1 (d:=.loop (loopOf 5 Tryz.f19)) (by kernel_rfl) Z8t),trivial⟩) (by kernel_rfl) Zij Zme rfl (by decide) (by decide) rfl (by decide) rfl Z3z (fun x=>by kernel_rfl)
abbrev Zg3:Shape:={ sl:=[(0,(.hole (.slice y4))),(1,(.hole (.slice y4))),(12,(.hole (.int .i64))),(13,(.hole (.int .i64)))],bl:=[],ts:=[(.slice y4),(.slice y4),(.int .i64),(.int .i64)],pin:=0 }
abbrev Zf5:List (ETag × Shape):=[(.ret,{ sl:=sl_35,bl:=[],ts:=ts_1,pin:=0 }),(.exit 0,{ sl:=[],bl:=[],ts:=[],pin:=0 })]
def Z8u (x:(List (Int × Int) × List (Int × Int) × Int × Int)):Option ((List (Int × Int) × List (Int × Int) × Int × Int) ⊕ ((Bool) ⊕ Unit)) :=
 bif (decide (x.2.2.2 < x.2.2.1)) then
 bif (inb x.2.2.2 (List.length x.1)) then
 bif (inb x.2.2.2 (List.length x.2.1)) then
 bif (Bool.not (((getAt ((0:Int),(0:Int)) x.1 (toN x.2.2.2)).1 == (getAt ((0:Int),(0:Int)) x.2.1 (toN x.2.2.2)).1) && ((getAt ((0:Int),(0:Int)) x.1 (toN x.2.2.2)).2 == (getAt ((0:Int),(0:Int)) x.2.1 (toN x.2.2.2)).2))) then
 some (.inr (.inl false))
 else
 some (.inl (x.1,x.2.1,x.2.2.1,(IntKind.wrap .i64 (x.2.2.2+(1:Int)))))
 else
 none
 else
 none
 else
 some (.inr (.inr ()))
def Zcb:Ctx:={ tb:=mkTb T2.tbl,fx:=[],sum:=[],nt:=26,pin:=0,nr:=true,ys:=[] }
theorem Z8v:CSound Tryz.prog ⟨26,0,true⟩ (.loop (loopOf 5 Tryz.f21)) (Yaz Zg3 Zf5 (loop Z8u)) :=
 Y8f (C:=Zcb) (ctxOK mixed tbl_ok rfl trivial trivial) (SumOK.of trivial) Zg3 Zf5 rfl rfl Z8u (fun x=>by kernel_rfl)
end
end Go.Proofs.YthdlpkdojipfhaaGreat.VX.VxM_M
set_option linter.unusedVariables false
set_option maxRecDepth 100000
namespace Go.Proofs.YthdlpkdojipfhaaGreat.VX.VxM_M
open Go.Proofs Go.Proofs.YthdlpkdojipfhaaGreat.VX.T2
noncomputable section
abbrev Zik:Shape:={ sl:=[(0,(.hole (.slice y4))),(1,(.hole (.slice y4)))],bl:=[],ts:=[(.slice y4),(.slice y4)],pin:=0 }
abbrev Zmf:Shape:={ sl:=sl_1,bl:=[],ts:=ts_1,pin:=0 }
def Z41 (x:(List (Int × Int) × List (Int × Int))):Option (Bool) :=
 bif ((((List.length x.1):Nat):Int) != (((List.length x.2):Nat):Int)) then
 some false
 else
 (loop Z8u (x.1,x.2,(((List.length x.1):Nat):Int),(0:Int))).bind fun r12 =>
 match r12 with
 | .inl y13 =>
 some y13
 | .inr y13 =>
 some true
abbrev Zqa:=Spec.shp Zik Zmf Z41
def Zca:Ctx:={ tb:=mkTb T2.tbl,fx:=[],sum:=[(0,5,Yaz Zg3 Zf5 (loop Z8u))],nt:=26,pin:=0,nr:=true,ys:=[] }
theorem Z42:Sound Tryz.prog 21 (Zqa) :=
 Sound.shp (C:=Zca) (fn:=Tryz.f21) (by kernel_rfl) (c:=bodyOf Tryz.f21) (by kernel_rfl) (by decide) (ctxOK mixed tbl_ok rfl trivial trivial) (SumOK.of ⟨(Yb1 (d:=.loop (loopOf 5 Tryz.f21)) (by kernel_rfl) Z8v),trivial⟩) (by kernel_rfl) Zik Zmf rfl (by decide) (by decide) rfl (by decide) rfl Z41 (fun x=>by kernel_rfl)
abbrev Zg1:Shape:={ sl:=sl_32,bl:=bl_18,ts:=ts_16,pin:=0 }
abbrev Zf3:List (ETag × Shape):=[(.exit 0,{ sl:=[(1,(.ptr 0 [])),(2,(.ptr 1 [])),(3,(.sl 2))],bl:=bl_18,ts:=[y39,(.int .i64),(.int .i64),(.int .i64),(.slice y9)],pin:=0 })]
def Z8p (x:T55):Option (T55 ⊕ (T47 × Int × Int × Int × List (T12))) :=
 bif (decide (x.2.2.1 < x.2.1)) then
 bif (inb x.2.2.1 (List.length x.1)) then
 bif (sub3 (0:Int) (Min.min (((List.length (getAt (([]:List T0),false) x.1 (toN x.2.2.1)).1):Nat):Int) (6:Int)) (List.length (getAt (([]:List T0),false) x.1 (toN x.2.2.1)).1)) then
 bif (fits ((List.length x.2.2.2.2.2.2.2)+(List.length (((cut (getAt (([]:List T0),false) x.1 (toN x.2.2.1)).1 (toN (0:Int)) ((toN (Min.min (((List.length (getAt (([]:List T0),false) x.1 (toN x.2.2.1)).1):Nat):Int) (6:Int))) - (toN (0:Int)))),(getAt (([]:List T0),false) x.1 (toN x.2.2.1)).2) :: ([]:List T21))))) then
 some (.inl (x.1,x.2.1,(IntKind.wrap .i64 (x.2.2.1+(1:Int))),x.2.2.2.1,x.2.2.2.2.1,x.2.2.2.2.2.1,x.2.2.2.2.2.2.1,(x.2.2.2.2.2.2.2++(((cut (getAt (([]:List T0),false) x.1 (toN x.2.2.1)).1 (toN (0:Int)) ((toN (Min.min (((List.length (getAt (([]:List T0),false) x.1 (toN x.2.2.1)).1):Nat):Int) (6:Int))) - (toN (0:Int)))),(getAt (([]:List T0),false) x.1 (toN x.2.2.1)).2) :: ([]:List T21)))))
 else
 none
 else
 none
 else
 none
 else
 some (.inr (x.2.2.2.1,x.2.2.2.2.1,x.2.2.2.2.2.1,x.2.2.2.2.2.2.1,x.2.2.2.2.2.2.2))
def Zc6:Ctx:={ tb:=mkTb T2.tbl,fx:=[],sum:=[],nt:=68,pin:=0,nr:=true,ys:=[] }
theorem Z8q:CSound Tryz.prog ⟨68,0,true⟩ (.loop (loopOf 5 Tryz.f27)) (Yaz Zg1 Zf3 (loop Z8p)) :=
 Y8f (C:=Zc6) (ctxOK mixed tbl_ok rfl trivial trivial) (SumOK.of trivial) Zg1 Zf3 rfl rfl Z8p (fun x=>by kernel_rfl)
abbrev Zg0:Shape:={ sl:=sl_33,bl:=bl_19,ts:=ts_17,pin:=0 }
abbrev Zf2:List (ETag × Shape):=[(.exit 2,{ sl:=[(1,(.ptr 0 [])),(2,(.ptr 1 [])),(3,(.sl 2)),(6,(.sl 3))],bl:=bl_19,ts:=[y39,(.int .i64),(.int .i64),(.int .i64),(.slice y9),y10],pin:=0 })]
def Z8n (x:T59):Option (T59 ⊕ (T47 × Int × Int × Int × List (T12) × List (List (T7)))) :=
 bif (decide (x.2.2.1 < x.2.1)) then
 bif (inb x.2.2.1 (List.length x.1)) then
 bif (sub3 (0:Int) (Min.min (((List.length (getAt ([]:List T7) x.1 (toN x.2.2.1))):Nat):Int) (30:Int)) (List.length (getAt ([]:List T7) x.1 (toN x.2.2.1)))) then
 bif (fits ((List.length x.2.2.2.2.2.2.2.2)+(List.length ((cut (getAt ([]:List T7) x.1 (toN x.2.2.1)) (toN (0:Int)) ((toN (Min.min (((List.length (getAt ([]:List T7) x.1 (toN x.2.2.1))):Nat):Int) (30:Int))) - (toN (0:Int)))) :: ([]:List (List T7)))))) then
 some (.inl (x.1,x.2.1,(IntKind.wrap .i64 (x.2.2.1+(1:Int))),x.2.2.2.1,x.2.2.2.2.1,x.2.2.2.2.2.1,x.2.2.2.2.2.2.1,x.2.2.2.2.2.2.2.1,(x.2.2.2.2.2.2.2.2++((cut (getAt ([]:List T7) x.1 (toN x.2.2.1)) (toN (0:Int)) ((toN (Min.min (((List.length (getAt ([]:List T7) x.1 (toN x.2.2.1))):Nat):Int) (30:Int))) - (toN (0:Int)))) :: ([]:List (List T7))))))
 else
 none
 else
 none
 else
 none
 else
 some (.inr (x.2.2.2.1,x.2.2.2.2.1,x.2.2.2.2.2.1,x.2.2.2.2.2.2.1,x.2.2.2.2.2.2.2.1,x.2.2.2.2.2.2.2.2))
def Zc5:Ctx:={ tb:=mkTb T2.tbl,fx:=[],sum:=[(0,5,Yaz Zg1 Zf3 (loop Z8p))],nt:=68,pin:=0,nr:=true,ys:=[] }
theorem Z8o:CSound Tryz.prog ⟨68,0,true⟩ (.loop (loopOf 12 Tryz.f27)) (Yaz Zg0 Zf2 (loop Z8n)) :=
 Y8f (C:=Zc5) (ctxOK mixed tbl_ok rfl trivial trivial) (SumOK.of ⟨(Yb0 (by kernel_rfl)),trivial⟩) Zg0 Zf2 rfl rfl Z8n (fun x=>by kernel_rfl)
abbrev Zih:Shape:={ sl:=sl_6,bl:=[],ts:=[y39],pin:=0 }
abbrev Zmc:Shape:={ sl:=sl_6,bl:=[],ts:=[y39],pin:=0 }
def Z3u (x:(T47)):Option (T47) :=
 bif (sub3 (0:Int) (Min.min (((List.length x.1):Nat):Int) (6:Int)) (List.length x.1)) then
 bif (sub3 (0:Int) (Min.min (((List.length x.2.2.2.2.1):Nat):Int) (6:Int)) (List.length x.2.2.2.2.1)) then
 (loop Z8p ((cut x.2.2.2.2.1 (toN (0:Int)) ((toN (Min.min (((List.length x.2.2.2.2.1):Nat):Int) (6:Int))) - (toN (0:Int)))),(((List.length (cut x.2.2.2.2.1 (toN (0:Int)) ((toN (Min.min (((List.length x.2.2.2.2.1):Nat):Int) (6:Int))) - (toN (0:Int))))):Nat):Int),(0:Int),((cut x.1 (toN (0:Int)) ((toN (Min.min (((List.length x.1):Nat):Int) (6:Int))) - (toN (0:Int)))),x.2),(0:Int),(0:Int),(0:Int),([]:List T21))).bind fun r2 =>
 bif (sub3 (0:Int) (Min.min (((List.length r2.1.2.2.2.2.2):Nat):Int) (8:Int)) (List.length r2.1.2.2.2.2.2)) then
 (loop Z8n ((cut r2.1.2.2.2.2.2 (toN (0:Int)) ((toN (Min.min (((List.length r2.1.2.2.2.2.2):Nat):Int) (8:Int))) - (toN (0:Int)))),(((List.length (cut r2.1.2.2.2.2.2 (toN (0:Int)) ((toN (Min.min (((List.length r2.1.2.2.2.2.2):Nat):Int) (8:Int))) - (toN (0:Int))))):Nat):Int),(0:Int),r2.1,r2.2.1,r2.2.2.1,r2.2.2.2.1,r2.2.2.2.2,([]:List (List T7)))).bind fun r3 =>
 some (r3.1.1,r3.1.2.1,r3.1.2.2.1,r3.1.2.2.2.1,r3.2.2.2.2.1,r3.2.2.2.2.2)
 else
 none
 else
 none
 else
 none
abbrev Zq7:=Spec.shp Zih Zmc Z3u
def Zc4:Ctx:={ tb:=mkTb T2.tbl,fx:=[],sum:=[(0,5,Yaz Zg1 Zf3 (loop Z8p)),(0,12,Yaz Zg0 Zf2 (loop Z8n))],nt:=68,pin:=0,nr:=true,ys:=[] }
theorem Z3v:Sound Tryz.prog 27 (Zq7) :=
 Sound.shp (C:=Zc4) (fn:=Tryz.f27) (by kernel_rfl) (c:=bodyOf Tryz.f27) (by kernel_rfl) (by decide) (ctxOK mixed tbl_ok rfl trivial trivial) (SumOK.of ⟨(Yb1 (d:=.loop (loopOf 5 Tryz.f27)) (by kernel_rfl) Z8q),(Yb1 (d:=.loop (loopOf 12 Tryz.f27)) (by kernel_rfl) Z8o),trivial⟩) (by kernel_rfl) Zih Zmc rfl (by decide) (by decide) rfl (by decide) rfl Z3u (fun x=>by kernel_rfl)
abbrev Zjf:Shape:={ sl:=[(0,(.hole y39)),(1,(.hole (.int .i64)))],bl:=[],ts:=[y39,(.int .i64)],pin:=0 }
abbrev Zna:Shape:={ sl:=sl_2,bl:=[],ts:=ts_2,pin:=0 }
def Z5r (x:(T47 × Int)):Option (Int) :=
 (Z45 x.1).bind fun r4 =>
 bif (Bool.not r4) then
 some (1:Int)
 else
 bif (decide (x.2 < (1:Int))) then
 some (2:Int)
 else
 bif (decide (x.2 > (400:Int))) then
 some (2:Int)
 else
 some (0:Int)
abbrev Zr4:=Spec.shp Zjf Zna Z5r
def Zdb:Ctx:={ tb:=mkTb T2.tbl,fx:=[(38,[],Zqc)],sum:=[],nt:=16,pin:=0,nr:=true,ys:=[] }
theorem Z5s:Sound Tryz.prog 80 (Zr4) :=
 Sound.shp (C:=Zdb) (fn:=Tryz.f80) (by kernel_rfl) (c:=bodyOf Tryz.f80) (by kernel_rfl) (by decide) (ctxOK mixed tbl_ok rfl ⟨Z46,trivial⟩ trivial) (SumOK.of trivial) (by kernel_rfl) Zjf Zna rfl (by decide) (by decide) rfl (by decide) rfl Z5r (fun x=>by kernel_rfl)
abbrev Zjj:Shape:={ sl:=[(0,(.hole y27))],bl:=[],ts:=[y27],pin:=0 }
abbrev Zne:Shape:={ sl:=[(0,(.sl 0))],bl:=[.row y24],ts:=[y27],pin:=0 }
def Z5z (x:(List (T20))):Option (List (T20)) :=
 bif (@Nat.beq (List.length x) (0:Nat)) then
 amb (
 some ([]:List T20)) (
 bif (fits ((List.length ([]:List T20))+(List.length x))) then
 some (([]:List T20)++x)
 else
 none)
 else
 bif (fits ((List.length ([]:List T20))+(List.length x))) then
 some (([]:List T20)++x)
 else
 none
abbrev Zr8:=Spec.shp Zjj Zne Z5z
def Zdg:Ctx:={ tb:=mkTb T2.tbl,fx:=[],sum:=[],nt:=8,pin:=0,nr:=true,ys:=[] }
theorem Z60:Sound Tryz.prog 139 (Zr8) :=
 Sound.shp (C:=Zdg) (fn:=Tryz.f139) (by kernel_rfl) (c:=bodyOf Tryz.f139) (by kernel_rfl) (by decide) (ctxOK mixed tbl_ok rfl trivial trivial) (SumOK.of trivial) (by kernel_rfl) Zjj Zne rfl (by decide) (by decide) rfl (by decide) rfl Z5z (fun x=>by kernel_rfl)
abbrev Zjg:Shape:={ sl:=sl_25,bl:=[.var (.hole (.one y0))],ts:=[(.int .i64),(.one y0)],pin:=0 }
abbrev Znb:Shape:={ sl:=sl_2,bl:=[.var (.hole (.one y0))],ts:=[(.int .i64),(.one y0)],pin:=1 }
def Z5t (x:T3):Option T3 :=
 bif ((((List.length x.2):Nat):Int) == (0:Int)) then
 some ((0:Int),x.2)
 else
 bif (inb (0:Int) (List.length x.2)) then
 bif (x.1 != (0:Int)) then
 bif (sub3 (1:Int) (((List.length x.2):Nat):Int) (List.length x.2)) then
 bif (decide ((Int.tmod (getAt (0:Int) x.2 (toN (0:Int))) x.1) < (0:Int))) then
 some ((IntKind.wrap .i64 ((Int.tmod (getAt (0:Int) x.2 (toN (0:Int))) x.1)+x.1)),(cut x.2 (toN (1:Int)) ((toN (((List.length x.2):Nat):Int)) - (toN (1:Int)))))
 else
 some ((Int.tmod (getAt (0:Int) x.2 (toN (0:Int))) x.1),(cut x.2 (toN (1:Int)) ((toN (((List.length x.2):Nat):Int)) - (toN (1:Int)))))
 else
 none
 else
 none
 else
 none
abbrev Zr5:=Spec.shp Zjg Znb Z5t
def Zdc:Ctx:={ tb:=mkTb T2.tbl,fx:=[],sum:=[],nt:=34,pin:=1,nr:=true,ys:=[] }
theorem Z5u:Sound Tryz.prog 81 (Zr5) :=
 Sound.shp (C:=Zdc) (fn:=Tryz.f81) (by kernel_rfl) (c:=bodyOf Tryz.f81) (by kernel_rfl) (by decide) (ctxOK mixed tbl_ok rfl trivial trivial) (SumOK.of trivial) (by kernel_rfl) Zjg Znb rfl (by decide) (by decide) rfl (by decide) rfl Z5t (fun x=>by kernel_rfl)
abbrev Zg9:Shape:={ sl:=[(1,(.fn 81 (.cons (.ptr 0 []) .nil) .nil)),(6,(.ptr 1 [])),(8,(.ptr 2 [])),(11,(.ptr 3 [])),(12,(.sl 4)),(27,(.hole (.int .i64))),(28,(.hole (.int .i64)))],bl:=bl_31,ts:=[(.int .i64),(.int .i64),(.one y0),(.int .i64),y45,(.int .i64),y0,y27,(.slice y4)],pin:=1 }
abbrev Zfb:List (ETag × Shape):=[(.exit 0,{ sl:=[(6,(.ptr 1 [])),(8,(.ptr 2 [])),(11,(.ptr 3 [])),(12,(.sl 4))],bl:=bl_31,ts:=[(.one y0),(.int .i64),y45,(.int .i64),y0,y27,(.slice y4)],pin:=1 })]
def Z96 (x:(Int × Int × List Int × Int × (T47 × T61) × Int × List Int × List (T20) × List (Int × Int))):Option ((Int × Int × List Int × Int × (T47 × T61) × Int × List Int × List (T20) × List (Int × Int)) ⊕ (List Int × Int × (T47 × T61) × Int × List Int × List (T20) × List (Int × Int))) :=
 bif (decide (x.2.1 < x.1)) then
 bif (x.2.2.2.2.1.2.2.2.2.2.2 != (0:Int)) then
 some (.inr (x.2.2.1,x.2.2.2.1,x.2.2.2.2.1,x.2.2.2.2.2.1,x.2.2.2.2.2.2.1,x.2.2.2.2.2.2.2.1,x.2.2.2.2.2.2.2.2))
 else
 (Z16 x.2.2.2.2.1).bind fun r8 =>
 (Z5t ((((List.length r8):Nat):Int),x.2.2.1)).bind fun r9 =>
 bif (inb r9.1 (List.length r8)) then
 (Z1a (x.2.2.2.2.1,(getAt ((0:Int),(0:Int)) r8 (toN r9.1)))).bind fun r10 =>
 bif (fits ((List.length x.2.2.2.2.2.2.2.1)+(List.length r10.2.1))) then
 bif (fits ((List.length x.2.2.2.2.2.2.2.2)+(List.length ((getAt ((0:Int),(0:Int)) r8 (toN r9.1)) :: ([]:List (Int × Int)))))) then
 bif (fits ((List.length x.2.2.2.2.2.2.1)+(List.length ((((List.length r8):Nat):Int) :: ([]:List Int))))) then
 some (.inl (x.1,(IntKind.wrap .i64 (x.2.1+(1:Int))),r9.2,x.2.2.2.1,r10.1,x.2.2.2.2.2.1,(x.2.2.2.2.2.2.1++((((List.length r8):Nat):Int) :: ([]:List Int))),(x.2.2.2.2.2.2.2.1++r10.2.1),(x.2.2.2.2.2.2.2.2++((getAt ((0:Int),(0:Int)) r8 (toN r9.1)) :: ([]:List (Int × Int))))))
 else
 none
 else
 none
 else
 none
 else
 none
 else
 some (.inr (x.2.2.1,x.2.2.2.1,x.2.2.2.2.1,x.2.2.2.2.2.1,x.2.2.2.2.2.2.1,x.2.2.2.2.2.2.2.1,x.2.2.2.2.2.2.2.2))
def Zde:Ctx:={ tb:=mkTb T2.tbl,fx:=[(14,[],Zox),(139,[],Zr8),(22,[],Zow),(81,[],Zr5),(23,[],Zoy)],sum:=[],nt:=76,pin:=1,nr:=true,ys:=[] }
theorem Z97:CSound Tryz.prog ⟨76,1,true⟩ (.loop (loopOf 6 Tryz.f82)) (Yaz Zg9 Zfb (loop Z96)) :=
 Y8f (C:=Zde) (ctxOK mixed tbl_ok rfl ⟨Z19,Z60,Z17,Z5u,Z1b,trivial⟩ trivial) (SumOK.of trivial) Zg9 Zfb rfl rfl Z96 (fun x=>by kernel_rfl)
abbrev Zjh:Shape:={ sl:=[(0,(.hole y39)),(1,(.fn 81 (.cons (.ptr 0 []) .nil) .nil)),(2,(.hole (.int .i64)))],bl:=[.var (.hole (.one y0))],ts:=[y39,(.int .i64),(.one y0)],pin:=0 }
abbrev Znc:Shape:={ sl:=[(0,(.hole y38)),(1,(.hole y0))],bl:=[.var (.hole (.one y0))],ts:=[y38,y0,(.one y0)],pin:=1 }
def Z5v (x:(T47 × Int × List Int)):Option ((Int × T36) × List Int × List Int) :=
 (Z18 x.1).bind fun r5 =>
 (Z5z r5.2.1).bind fun r6 =>
 (loop Z96 (x.2.1,(0:Int),x.2.2,(0:Int),r5.1,(0:Int),([]:List Int),r6,([]:List (Int × Int)))).bind fun r7 =>
 bif (r7.2.2.1.2.2.2.2.2.2 == (0:Int)) then
 some (((5:Int),r7.2.2.2.2.2.1,r7.2.2.2.2.2.2),r7.2.2.2.2.1,r7.1)
 else
 some ((r7.2.2.1.2.2.2.2.2.2,r7.2.2.2.2.2.1,r7.2.2.2.2.2.2),r7.2.2.2.2.1,r7.1)
abbrev Zr6:=Spec.shp Zjh Znc Z5v
def Zdd:Ctx:={ tb:=mkTb T2.tbl,fx:=[(14,[],Zox),(139,[],Zr8),(22,[],Zow),(81,[],Zr5),(23,[],Zoy)],sum:=[(0,6,Yaz Zg9 Zfb (loop Z96))],nt:=76,pin:=1,nr:=true,ys:=[] }
theorem Z5w:Sound Tryz.prog 82 (Zr6) :=
 Sound.shp (C:=Zdd) (fn:=Tryz.f82) (by kernel_rfl) (c:=bodyOf Tryz.f82) (by kernel_rfl) (by decide) (ctxOK mixed tbl_ok rfl ⟨Z19,Z60,Z17,Z5u,Z1b,trivial⟩ trivial) (SumOK.of ⟨(Yb1 (d:=.loop (loopOf 6 Tryz.f82)) (by kernel_rfl) Z97),trivial⟩) (by kernel_rfl) Zjh Znc rfl (by decide) (by decide) rfl (by decide) rfl Z5v (fun x=>by kernel_rfl)
abbrev Zjd:Shape:={ sl:=sl_43,bl:=[],ts:=[y39,y0,(.int .i64)],pin:=0 }
abbrev Zn8:Shape:={ sl:=[(0,(.hole y38)),(1,(.hole (.int .i64)))],bl:=[],ts:=[y38,(.int .i64)],pin:=0 }
def Z5n (x:T51):Option ((Int × T36) × Int) :=
 (Z5r (x.1,x.2.2)).bind fun r3 =>
 bif (r3 != (0:Int)) then
 some (((0:Int),([]:List T20),([]:List (Int × Int))),r3)
 else
 (Z5v (x.1,x.2.2,x.2.1)).bind fun r4 =>
 some (r4.1,(0:Int))
abbrev Zr2:=Spec.shp Zjd Zn8 Z5n
def Zd9:Ctx:={ tb:=mkTb T2.tbl,fx:=[(80,[],Zr4),(82,[81],Zr6)],sum:=[],nt:=31,pin:=0,nr:=true,ys:=[] }
theorem Z5o:Sound Tryz.prog 28 (Zr2) :=
 Sound.shp (C:=Zd9) (fn:=Tryz.f28) (by kernel_rfl) (c:=bodyOf Tryz.f28) (by kernel_rfl) (by decide) (ctxOK mixed tbl_ok rfl ⟨Z5s,Z5w,trivial⟩ trivial) (SumOK.of trivial) (by kernel_rfl) Zjd Zn8 rfl (by decide) (by decide) rfl (by decide) rfl Z5n (fun x=>by kernel_rfl)
abbrev Zje:Shape:={ sl:=sl_43,bl:=[],ts:=[y39,y0,(.int .i64)],pin:=0 }
abbrev Zn9:Shape:={ sl:=sl_16,bl:=[],ts:=[y0,(.int .i64)],pin:=0 }
def Z5p (x:T51):Option T2 :=
 (Z5r (x.1,x.2.2)).bind fun r4 =>
 bif (r4 != (0:Int)) then
 some (([]:List Int),r4)
 else
 (Z5v (x.1,x.2.2,x.2.1)).bind fun r5 =>
 some (r5.2.1,(0:Int))
abbrev Zr3:=Spec.shp Zje Zn9 Z5p
def Zda:Ctx:={ tb:=mkTb T2.tbl,fx:=[(80,[],Zr4),(82,[81],Zr6)],sum:=[],nt:=28,pin:=0,nr:=true,ys:=[] }
theorem Z5q:Sound Tryz.prog 31 (Zr3) :=
 Sound.shp (C:=Zda) (fn:=Tryz.f31) (by kernel_rfl) (c:=bodyOf Tryz.f31) (by kernel_rfl) (by decide) (ctxOK mixed tbl_ok rfl ⟨Z5s,Z5w,trivial⟩ trivial) (SumOK.of trivial) (by kernel_rfl) Zje Zn9 rfl (by decide) (by decide) rfl (by decide) rfl Z5p (fun x=>by kernel_rfl)
abbrev Zii:Shape:={ sl:=[],bl:=[],ts:=[],pin:=0 }
abbrev Zmd:Shape:={ sl:=sl_6,bl:=[],ts:=[y39],pin:=0 }
def Z3w (x:Unit):Option (T47) :=
 some (((0:Int) :: ([]:List Int)),(0:Int),(0:Int),(0:Int),([]:List T21),((((9:Int),(1:Int),(0:Int)) :: (((2:Int),(0:Int),(0:Int)) :: ([]:List T7))) :: ((((1:Int),(0:Int),(0:Int)) :: ([]:List T7)) :: ([]:List (List T7)))))
abbrev Zq8:=Spec.shp Zii Zmd Z3w
def Zc7:Ctx:={ tb:=mkTb T2.tbl,fx:=[],sum:=[],nt:=9,pin:=0,nr:=true,ys:=[] }
theorem Z3x:Sound Tryz.prog 83 (Zq8) :=
 Sound.shp (C:=Zc7) (fn:=Tryz.f83) (by kernel_rfl) (c:=bodyOf Tryz.f83) (by kernel_rfl) (by decide) (ctxOK mixed tbl_ok rfl trivial trivial) (SumOK.of trivial) (by kernel_rfl) Zii Zmd rfl (by decide) (by decide) rfl (by decide) rfl Z3w (fun x=>by kernel_rfl)
abbrev Zig:Shape:={ sl:=[],bl:=[],ts:=[],pin:=0 }
abbrev Zmb:Shape:={ sl:=sl_1,bl:=[],ts:=ts_1,pin:=0 }
def Z3s (x:Unit):Option (Bool) :=
 (Z3w ()).bind fun r6 =>
 (Z5n (r6,([]:List Int),(9:Int))).bind fun r7 =>
 bif (r7.2 == (0:Int)) then
 bif (r7.1.1 == (1:Int)) then
 bif ((((List.length r7.1.2.1):Nat):Int) == (7:Int)) then
 bif ((((List.length r7.1.2.2):Nat):Int) == (3:Int)) then
 bif (inb (2:Int) (List.length r7.1.2.2)) then
 some ((getAt ((0:Int),(0:Int)) r7.1.2.2 (toN (2:Int))).1 == (1:Int))
 else
 none
 else
 some false
 else
 some false
 else
 some false
 else
 some false
abbrev Zq6:=Spec.shp Zig Zmb Z3s
def Zc3:Ctx:={ tb:=mkTb T2.tbl,fx:=[(83,[],Zq8),(28,[],Zr2)],sum:=[],nt:=35,pin:=0,nr:=true,ys:=[] }
theorem Z3t:Sound Tryz.prog 29 (Zq6) :=
 Sound.shp (C:=Zc3) (fn:=Tryz.f29) (by kernel_rfl) (c:=bodyOf Tryz.f29) (by kernel_rfl) (by decide) (ctxOK mixed tbl_ok rfl ⟨Z3x,Z5o,trivial⟩ trivial) (SumOK.of trivial) (by kernel_rfl) Zig Zmb rfl (by decide) (by decide) rfl (by decide) rfl Z3s (fun x=>by kernel_rfl)
abbrev Zil:Shape:={ sl:=[(0,(.hole y38)),(1,(.hole y38))],bl:=[],ts:=[y38,y38],pin:=0 }
abbrev Zmg:Shape:={ sl:=sl_1,bl:=[],ts:=ts_1,pin:=0 }
def Z43 (x:((Int × T36) × (Int × T36))):Option (Bool) :=
 bif (x.1.1 == x.2.1) then
 (Z3z (x.1.2.1,x.2.2.1)).bind fun r7 =>
 bif r7 then
 (Z41 (x.1.2.2,x.2.2.2)).bind fun r8 =>
 some r8
 else
 some false
 else
 some false
abbrev Zqb:=Spec.shp Zil Zmg Z43
def Zcc:Ctx:={ tb:=mkTb T2.tbl,fx:=[(19,[],Zq9),(21,[],Zqa)],sum:=[],nt:=24,pin:=0,nr:=true,ys:=[] }
theorem Z44:Sound Tryz.prog 30 (Zqb) :=
 Sound.shp (C:=Zcc) (fn:=Tryz.f30) (by kernel_rfl) (c:=bodyOf Tryz.f30) (by kernel_rfl) (by decide) (ctxOK mixed tbl_ok rfl ⟨Z40,Z42,trivial⟩ trivial) (SumOK.of trivial) (by kernel_rfl) Zil Zmg rfl (by decide) (by decide) rfl (by decide) rfl Z43 (fun x=>by kernel_rfl)
abbrev Zg8:Shape:={ sl:=[(6,(.ptr 0 [])),(9,(.sl 1)),(27,(.hole (.slice y4))),(28,(.hole (.int .i64))),(29,(.hole (.int .i64)))],bl:=[.var (.hole y45),.row (.int .i64)],ts:=[(.slice y4),(.int .i64),(.int .i64),y45,y0],pin:=0 }
abbrev Zfa:List (ETag × Shape):=[(.ret,{ sl:=[(4,.nl),(5,(.hole (.int .i64)))],bl:=[],ts:=ts_2,pin:=0 }),(.exit 1,{ sl:=[(9,(.sl 0))],bl:=bl_14,ts:=[y0],pin:=0 })]
def Z94 (x:T66):Option (T66 ⊕ ((Int) ⊕ (List Int))) :=
 bif (decide (x.2.2.1 < x.2.1)) then
 bif (inb x.2.2.1 (List.length x.1)) then
 (Z16 x.2.2.2.1).bind fun r5 =>
 (Z7b (r5,(getAt ((0:Int),(0:Int)) x.1 (toN x.2.2.1)))).bind fun r6 =>
 bif (decide (r6 < (0:Int))) then
 some (.inr (.inl (4:Int)))
 else
 bif (fits ((List.length x.2.2.2.2)+(List.length (r6 :: ([]:List Int))))) then
 (Z1a (x.2.2.2.1,(getAt ((0:Int),(0:Int)) x.1 (toN x.2.2.1)))).bind fun r7 =>
 some (.inl (x.1,x.2.1,(IntKind.wrap .i64 (x.2.2.1+(1:Int))),r7.1,(x.2.2.2.2++(r6 :: ([]:List Int)))))
 else
 none
 else
 none
 else
 some (.inr (.inr x.2.2.2.2))
def Zd8:Ctx:={ tb:=mkTb T2.tbl,fx:=[(14,[],Zox),(22,[],Zow),(84,[],Zrw),(23,[],Zoy)],sum:=[],nt:=52,pin:=0,nr:=true,ys:=[] }
theorem Z95:CSound Tryz.prog ⟨52,0,true⟩ (.loop (loopOf 9 Tryz.f34)) (Yaz Zg8 Zfa (loop Z94)) :=
 Y8f (C:=Zd8) (ctxOK mixed tbl_ok rfl ⟨Z19,Z17,Z7c,Z1b,trivial⟩ trivial) (SumOK.of trivial) Zg8 Zfa rfl rfl Z94 (fun x=>by kernel_rfl)
abbrev Zjc:Shape:={ sl:=[(0,(.hole y39)),(1,(.hole (.slice y4)))],bl:=[],ts:=[y39,(.slice y4)],pin:=0 }
abbrev Zn7:Shape:={ sl:=sl_16,bl:=[],ts:=[y0,(.int .i64)],pin:=0 }
def Z5l (x:(T47 × List (Int × Int))):Option T2 :=
 (Z18 x.1).bind fun r3 =>
 bif (r3.2.2 != (0:Int)) then
 some (([]:List Int),r3.2.2)
 else
 bif (decide ((((List.length x.2):Nat):Int) > (400:Int))) then
 some (([]:List Int),(2:Int))
 else
 (loop Z94 (x.2,(((List.length x.2):Nat):Int),(0:Int),r3.1,([]:List Int))).bind fun r4 =>
 match r4 with
 | .inl y5 =>
 some (([]:List Int),y5)
 | .inr y5 =>
 some (y5,(0:Int))
abbrev Zr1:=Spec.shp Zjc Zn7 Z5l
def Zd7:Ctx:={ tb:=mkTb T2.tbl,fx:=[(14,[],Zox),(22,[],Zow),(84,[],Zrw),(23,[],Zoy)],sum:=[(0,9,Yaz Zg8 Zfa (loop Z94))],nt:=52,pin:=0,nr:=true,ys:=[] }
theorem Z5m:Sound Tryz.prog 34 (Zr1) :=
 Sound.shp (C:=Zd7) (fn:=Tryz.f34) (by kernel_rfl) (c:=bodyOf Tryz.f34) (by kernel_rfl) (by decide) (ctxOK mixed tbl_ok rfl ⟨Z19,Z17,Z7c,Z1b,trivial⟩ trivial) (SumOK.of ⟨(Yb1 (d:=.loop (loopOf 9 Tryz.f34)) (by kernel_rfl) Z95),trivial⟩) (by kernel_rfl) Zjc Zn7 rfl (by decide) (by decide) rfl (by decide) rfl Z5l (fun x=>by kernel_rfl)
abbrev Zfz:Shape:={ sl:=[(2,(.hole (.int .i64))),(3,(.hole (.int .i64))),(4,(.ptr 0 [])),(9,(.ptr 1 [])),(11,(.hole y0)),(13,(.hole y0)),(15,(.sl 2)),(114,(.hole y0)),(115,(.hole (.int .i64))),(116,(.hole (.int .i64)))],bl:=[.var (.hole y39),.var (.hole y38),.row (.int .i64)],ts:=[(.int .i64),(.int .i64),y0,y0,y0,(.int .i64),(.int .i64),y39,y38,y0],pin:=0 }
abbrev Zf1:List (ETag × Shape):=[(.ret,{ sl:=[(8,(.hole .bool))],bl:=[],ts:=ts_1,pin:=0 }),(.exit 0,{ sl:=[(2,(.hole (.int .i64))),(4,(.ptr 0 [])),(9,(.ptr 1 [])),(11,(.hole y0)),(15,(.sl 2))],bl:=[.var (.hole y39),.var (.hole y38),.row (.int .i64)],ts:=[(.int .i64),y0,y39,y38,y0],pin:=0 })]
def Z8l (x:(Int × Int × List Int × List Int × List Int × Int × Int × T47 × (Int × T36) × List Int)):Option ((Int × Int × List Int × List Int × List Int × Int × Int × T47 × (Int × T36) × List Int) ⊕ ((Bool) ⊕ (Int × List Int × T47 × (Int × T36) × List Int))) :=
 bif (decide (x.2.2.2.2.2.2.1 < x.2.2.2.2.2.1)) then
 bif (inb x.2.2.2.2.2.2.1 (List.length x.2.2.2.2.1)) then
 bif (decide ((getAt (0:Int) x.2.2.2.2.1 (toN x.2.2.2.2.2.2.1)) < (0:Int))) then
 some (.inr (.inl false))
 else
 bif (inb x.2.2.2.2.2.2.1 (List.length x.2.2.2.1)) then
 bif (decide ((getAt (0:Int) x.2.2.2.2.1 (toN x.2.2.2.2.2.2.1)) ≥ (getAt (0:Int) x.2.2.2.1 (toN x.2.2.2.2.2.2.1)))) then
 some (.inr (.inl false))
 else
 bif (inb x.2.2.2.2.2.2.1 (List.length x.2.2.2.1)) then
 bif (fits ((List.length x.2.2.2.2.2.2.2.2.2)+(List.length ((IntKind.wrap .i64 ((getAt (0:Int) x.2.2.2.2.1 (toN x.2.2.2.2.2.2.1))+(IntKind.wrap .i64 ((getAt (0:Int) x.2.2.2.1 (toN x.2.2.2.2.2.2.1)) * (Int.tmod (IntKind.wrap .i64 ((Int.tmod x.2.1 (5:Int))+(5:Int))) (5:Int)))))) :: ([]:List Int))))) then
 some (.inl (x.1,x.2.1,x.2.2.1,x.2.2.2.1,x.2.2.2.2.1,x.2.2.2.2.2.1,(IntKind.wrap .i64 (x.2.2.2.2.2.2.1+(1:Int))),x.2.2.2.2.2.2.2.1,x.2.2.2.2.2.2.2.2.1,(x.2.2.2.2.2.2.2.2.2++((IntKind.wrap .i64 ((getAt (0:Int) x.2.2.2.2.1 (toN x.2.2.2.2.2.2.1))+(IntKind.wrap .i64 ((getAt (0:Int) x.2.2.2.1 (toN x.2.2.2.2.2.2.1)) * (Int.tmod (IntKind.wrap .i64 ((Int.tmod x.2.1 (5:Int))+(5:Int))) (5:Int)))))) :: ([]:List Int)))))
 else
 none
 else
 none
 else
 none
 else
 none
 else
 some (.inr (.inr (x.1,x.2.2.1,x.2.2.2.2.2.2.2.1,x.2.2.2.2.2.2.2.2.1,x.2.2.2.2.2.2.2.2.2)))
def Zc2:Ctx:={ tb:=mkTb T2.tbl,fx:=[(27,[],Zq7),(28,[],Zr2),(29,[],Zq6),(30,[],Zqb),(34,[],Zr1),(31,[],Zr3)],sum:=[],nt:=178,pin:=0,nr:=true,ys:=[],rw:=[(1,[1])] }
theorem Z8m:CSound Tryz.prog ⟨178,0,true⟩ (.loop (loopOf 12 Tryz.f10)) (Yaz Zfz Zf1 (loop Z8l)) :=
 Y8f (C:=Zc2) (ctxOK mixed tbl_ok rfl ⟨Z3v,Z5o,Z3t,Z44,Z5m,Z5q,trivial⟩ trivial) (SumOK.of trivial) Zfz Zf1 rfl rfl Z8l (fun x=>by kernel_rfl)
def F_plaitlaw13_RunBack (x:(T47 × List Int × Int × Int)):Option (Bool) :=
 (Z3u x.1).bind fun r1 =>
 bif (sub3 (0:Int) (Min.min (((List.length x.2.1):Nat):Int) (120:Int)) (List.length x.2.1)) then
 (Z5n (r1,(cut x.2.1 (toN (0:Int)) ((toN (Min.min (((List.length x.2.1):Nat):Int) (120:Int))) - (toN (0:Int)))),(IntKind.wrap .i64 ((1:Int)+(Int.tmod (IntKind.wrap .i64 ((Int.tmod x.2.2.1 (100:Int))+(100:Int))) (100:Int)))))).bind fun r2 =>
 bif (r2.2 != (0:Int)) then
 (Z3s ()).bind fun r3 =>
 bif r3 then
 bif (r2.2 == (1:Int)) then
 (Z43 (r2.1,(0:Int),([]:List T20),([]:List (Int × Int)))).bind fun r4 =>
 some r4
 else
 some false
 else
 some false
 else
 (Z5l (r1,r2.1.2.2)).bind fun r3 =>
 (Z5p (r1,(cut x.2.1 (toN (0:Int)) ((toN (Min.min (((List.length x.2.1):Nat):Int) (120:Int))) - (toN (0:Int)))),(IntKind.wrap .i64 ((1:Int)+(Int.tmod (IntKind.wrap .i64 ((Int.tmod x.2.2.1 (100:Int))+(100:Int))) (100:Int)))))).bind fun r4 =>
 bif (r3.2 != (0:Int)) then
 some false
 else
 bif (r4.2 != (0:Int)) then
 some false
 else
 bif ((((List.length r3.1):Nat):Int) != (((List.length r2.1.2.2):Nat):Int)) then
 some false
 else
 bif ((((List.length r4.1):Nat):Int) != (((List.length r3.1):Nat):Int)) then
 some false
 else
 bif (decide ((((List.length r3.1):Nat):Int) > (IntKind.wrap .i64 ((1:Int)+(Int.tmod (IntKind.wrap .i64 ((Int.tmod x.2.2.1 (100:Int))+(100:Int))) (100:Int)))))) then
 some false
 else
 bif (r2.1.1 == (0:Int)) then
 some false
 else
 bif (r2.1.1 == (5:Int)) then
 bif ((((List.length r3.1):Nat):Int) != (IntKind.wrap .i64 ((1:Int)+(Int.tmod (IntKind.wrap .i64 ((Int.tmod x.2.2.1 (100:Int))+(100:Int))) (100:Int))))) then
 some false
 else
 (Z3s ()).bind fun r5 =>
 bif (Bool.not r5) then
 some false
 else
 (loop Z8l ((IntKind.wrap .i64 ((1:Int)+(Int.tmod (IntKind.wrap .i64 ((Int.tmod x.2.2.1 (100:Int))+(100:Int))) (100:Int)))),x.2.2.2,r3.1,r4.1,r3.1,(((List.length r3.1):Nat):Int),(0:Int),r1,r2.1,([]:List Int))).bind fun r6 =>
 match r6 with
 | .inl y7 =>
 some y7
 | .inr y7 =>
 (Z5n (y7.2.2.1,y7.2.1,y7.1)).bind fun r8 =>
 bif (fits ((List.length y7.2.2.2.2)+(List.length ((7:Int) :: ((Int.negSucc 0) :: ((3:Int) :: ([]:List Int))))))) then
 (Z5n (y7.2.2.1,(y7.2.2.2.2++((7:Int) :: ((Int.negSucc 0) :: ((3:Int) :: ([]:List Int))))),y7.1)).bind fun r9 =>
 bif (r8.2 == (0:Int)) then
 bif (r9.2 == (0:Int)) then
 (Z43 (r8.1,y7.2.2.2.1)).bind fun r10 =>
 bif r10 then
 (Z43 (r9.1,y7.2.2.2.1)).bind fun r11 =>
 some r11
 else
 some false
 else
 some false
 else
 some false
 else
 none
 else
 (Z3s ()).bind fun r5 =>
 bif (Bool.not r5) then
 some false
 else
 (loop Z8l ((IntKind.wrap .i64 ((1:Int)+(Int.tmod (IntKind.wrap .i64 ((Int.tmod x.2.2.1 (100:Int))+(100:Int))) (100:Int)))),x.2.2.2,r3.1,r4.1,r3.1,(((List.length r3.1):Nat):Int),(0:Int),r1,r2.1,([]:List Int))).bind fun r6 =>
 match r6 with
 | .inl y7 =>
 some y7
 | .inr y7 =>
 (Z5n (y7.2.2.1,y7.2.1,y7.1)).bind fun r8 =>
 bif (fits ((List.length y7.2.2.2.2)+(List.length ((7:Int) :: ((Int.negSucc 0) :: ((3:Int) :: ([]:List Int))))))) then
 (Z5n (y7.2.2.1,(y7.2.2.2.2++((7:Int) :: ((Int.negSucc 0) :: ((3:Int) :: ([]:List Int))))),y7.1)).bind fun r9 =>
 bif (r8.2 == (0:Int)) then
 bif (r9.2 == (0:Int)) then
 (Z43 (r8.1,y7.2.2.2.1)).bind fun r10 =>
 bif r10 then
 (Z43 (r9.1,y7.2.2.2.1)).bind fun r11 =>
 some r11
 else
 some false
 else
 some false
 else
 some false
 else
 none
 else
 none
def Zc1:Ctx:={ tb:=mkTb T2.tbl,fx:=[(27,[],Zq7),(28,[],Zr2),(29,[],Zq6),(30,[],Zqb),(34,[],Zr1),(31,[],Zr3),(28,[2000000],Zr2)],sum:=[(0,12,Yaz Zfz Zf1 (loop Z8l))],nt:=178,pin:=0,nr:=true,ys:=[],rw:=[(1,[1])] }
theorem F_plaitlaw13_RunBack_ok:Sound Tryz.prog 10 (Spec.pure [y39,y0,(.int .i64),(.int .i64)] [.bool] F_plaitlaw13_RunBack) :=
 Sound.pure (C:=Zc1) (fn:=Tryz.f10) (by kernel_rfl) (c:=bodyOf Tryz.f10) (by kernel_rfl) (by decide) (ctxOK mixed tbl_ok rfl ⟨Z3v,Z5o,Z3t,Z44,Z5m,Z5q,Z5o,trivial⟩) (SumOK.of ⟨(Yb1 (d:=.loop (loopOf 12 Tryz.f10)) (by kernel_rfl) Z8m),trivial⟩) (by kernel_rfl) rfl _ _ (by decide) _ (fun x=>by kernel_rfl)
end
end Go.Proofs.YthdlpkdojipfhaaGreat.VX.VxM_M
set_option linter.unusedVariables false
set_option maxRecDepth 100000
namespace Go.Proofs.YthdlpkdojipfhaaGreat.VX.VxM_M
open Go.Proofs Go.Proofs.YthdlpkdojipfhaaGreat.VX.T2
noncomputable section
end
end Go.Proofs.YthdlpkdojipfhaaGreat.VX.VxM_M

