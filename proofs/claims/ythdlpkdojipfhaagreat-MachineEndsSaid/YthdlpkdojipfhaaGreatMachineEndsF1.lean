/- Laid for the law MachineEnds. -/
import Derived.Test.YthdlpkdojipfhaaGreatMachineEndsF0
set_option linter.unusedVariables false
set_option maxRecDepth 100000
namespace Go.Proofs.YthdlpkdojipfhaaGreat.VX.VxM_M
open Go.Proofs Go.Proofs.YthdlpkdojipfhaaGreat.VX.T2
noncomputable section
abbrev Zfg:Shape:={ sl:=sl_27,bl:=[],ts:=[y40,y5],pin:=0 }
abbrev Zj1:Shape:={ sl:=sl_28,bl:=[],ts:=[y40,y30,(.int .i64)],pin:=0 }
def Zc (x:T45):Option T48 :=
 (Za x.1).bind fun r18 =>
 bif (Bool.not r18) then
 some (((0:Int),false,((0:Int),(0:Int),([]:List Int),(0:Int)),(0:Int),(0:Int),([]:List T7),([]:List T7)),((0:Int),(0:Int),((0:Int),(0:Int),(0:Int)),(0:Int)),(1:Int))
 else
 (Ze x.2).bind fun r19 =>
 bif (Bool.not r19) then
 some (((0:Int),false,((0:Int),(0:Int),([]:List Int),(0:Int)),(0:Int),(0:Int),([]:List T7),([]:List T7)),((0:Int),(0:Int),((0:Int),(0:Int),(0:Int)),(0:Int)),(1:Int))
 else
 (Zq (x.1.2.2.2.2.2.2,x.1,x.2.1)).bind fun r20 =>
 (Zl r20.2).bind fun r21 =>
 bif r21.1 then
 some (x.1,((0:Int),(0:Int),((Int.negSucc 0),(0:Int),(0:Int)),(0:Int)),(0:Int))
 else
 bif r20.2.1.2.1 then
 some (x.1,((3:Int),(0:Int),((Int.negSucc 0),(0:Int),(0:Int)),(0:Int)),(0:Int))
 else
 bif (r20.1.1 != (Int.negSucc 0)) then
 bif (r20.2.1.2.2.2.1 == (1048576:Int)) then
 some (((0:Int),false,((0:Int),(0:Int),([]:List Int),(0:Int)),(0:Int),(0:Int),([]:List T7),([]:List T7)),((0:Int),(0:Int),((0:Int),(0:Int),(0:Int)),(0:Int)),(5:Int))
 else
 bif (r20.1.1 != (Int.negSucc 0)) then
 (Zo (r20.1.1,r20.2)).bind fun r22 =>
 (Zs r22).bind fun r23 =>
 some (r23.2.1,((1:Int),r23.1,r20.1,r23.1),(0:Int))
 else
 (Zi r20.2).bind fun r22 =>
 bif (Bool.not r22.1) then
 (Zw r20.2).bind fun r23 =>
 some (r23.2.1,((1:Int),r23.1,r20.1,(0:Int)),(0:Int))
 else
 (Z72 (r20.2.1.2.2.2.2.2.1,x.2)).bind fun r23 =>
 bif (r23.2 != (0:Int)) then
 some (((0:Int),false,((0:Int),(0:Int),([]:List Int),(0:Int)),(0:Int),(0:Int),([]:List T7),([]:List T7)),((0:Int),(0:Int),((0:Int),(0:Int),(0:Int)),(0:Int)),r23.2)
 else
 some ((r20.2.1.1,r20.2.1.2.1,r20.2.1.2.2.1,r20.2.1.2.2.2.1,r20.2.1.2.2.2.2.1,r23.1,r20.2.1.2.2.2.2.2.2),((0:Int),(0:Int),r20.1,(0:Int)),(0:Int))
 else
 (Zi r20.2).bind fun r22 =>
 bif (Bool.not r22.1) then
 bif (r20.2.1.2.2.2.1 == (1048576:Int)) then
 some (((0:Int),false,((0:Int),(0:Int),([]:List Int),(0:Int)),(0:Int),(0:Int),([]:List T7),([]:List T7)),((0:Int),(0:Int),((0:Int),(0:Int),(0:Int)),(0:Int)),(5:Int))
 else
 bif (r20.1.1 != (Int.negSucc 0)) then
 (Zo (r20.1.1,r20.2)).bind fun r23 =>
 (Zs r23).bind fun r24 =>
 some (r24.2.1,((1:Int),r24.1,r20.1,r24.1),(0:Int))
 else
 (Zi r20.2).bind fun r23 =>
 bif (Bool.not r23.1) then
 (Zw r20.2).bind fun r24 =>
 some (r24.2.1,((1:Int),r24.1,r20.1,(0:Int)),(0:Int))
 else
 (Z72 (r20.2.1.2.2.2.2.2.1,x.2)).bind fun r24 =>
 bif (r24.2 != (0:Int)) then
 some (((0:Int),false,((0:Int),(0:Int),([]:List Int),(0:Int)),(0:Int),(0:Int),([]:List T7),([]:List T7)),((0:Int),(0:Int),((0:Int),(0:Int),(0:Int)),(0:Int)),r24.2)
 else
 some ((r20.2.1.1,r20.2.1.2.1,r20.2.1.2.2.1,r20.2.1.2.2.2.1,r20.2.1.2.2.2.2.1,r24.1,r20.2.1.2.2.2.2.2.2),((0:Int),(0:Int),r20.1,(0:Int)),(0:Int))
 else
 bif (r20.1.1 != (Int.negSucc 0)) then
 (Zo (r20.1.1,r20.2)).bind fun r23 =>
 (Zs r23).bind fun r24 =>
 some (r24.2.1,((1:Int),r24.1,r20.1,r24.1),(0:Int))
 else
 (Zi r20.2).bind fun r23 =>
 bif (Bool.not r23.1) then
 (Zw r20.2).bind fun r24 =>
 some (r24.2.1,((1:Int),r24.1,r20.1,(0:Int)),(0:Int))
 else
 (Z72 (r20.2.1.2.2.2.2.2.1,x.2)).bind fun r24 =>
 bif (r24.2 != (0:Int)) then
 some (((0:Int),false,((0:Int),(0:Int),([]:List Int),(0:Int)),(0:Int),(0:Int),([]:List T7),([]:List T7)),((0:Int),(0:Int),((0:Int),(0:Int),(0:Int)),(0:Int)),r24.2)
 else
 some ((r20.2.1.1,r20.2.1.2.1,r20.2.1.2.2.1,r20.2.1.2.2.2.1,r20.2.1.2.2.2.2.1,r24.1,r20.2.1.2.2.2.2.2.2),((0:Int),(0:Int),r20.1,(0:Int)),(0:Int))
abbrev Zmm:=Spec.shp Zfg Zj1 Zc
def Z99:Ctx:={ tb:=mkTb T2.tbl,fx:=[(112,[],Zml),(206,[],Zmn),(167,[],Zms),(165,[],Spec.shpR Zfk Zj5 Zl),(205,[],Zmr),(209,[],Zmt),(166,[],Spec.shpR Zfj Zj4 Zi),(208,[],Zmv),(171,[],Zpv)],sum:=[],nt:=128,pin:=0,nr:=true,ys:=[] }
theorem Zd:Sound Tryz.prog 170 (Zmm) :=
 Sound.shp (C:=Z99) (fn:=Tryz.f170) (by kernel_rfl) (c:=bodyOf Tryz.f170) (by kernel_rfl) (by decide) (ctxOK mixed tbl_ok rfl ⟨Zb,Zf,Zr,Zn,Zp,Zt,Zk,Zx,Z73,trivial⟩ trivial) (SumOK.of trivial) (by kernel_rfl) Zfg Zj1 rfl (by decide) (by decide) rfl (by decide) rfl Zc (fun x=>by kernel_rfl)
abbrev Zhq:Shape:={ sl:=[(0,(.hole y21))],bl:=[],ts:=[y21],pin:=0 }
abbrev Zlb:Shape:={ sl:=[(0,(.hole y21)),(1,(.hole (.int .i64))),(2,(.hole (.int .i64)))],bl:=[],ts:=[y21,(.int .i64),(.int .i64)],pin:=0 }
def Z50 (x:(T16)):Option (T16 × Int × Int) :=
 (Z54 x).bind fun r25 =>
 bif (Bool.not r25) then
 some (((0:Int),(0:Int),([]:List Int),(0:Int)),(0:Int),(1:Int))
 else
 bif (x.2.2.2 == (0:Int)) then
 some (((0:Int),(0:Int),([]:List Int),(0:Int)),(0:Int),(4:Int))
 else
 (Z5a (x,(0:Int))).bind fun r26 =>
 bif (inb r26 (List.length x.2.2.1)) then
 (Z5a (x,(1:Int))).bind fun r27 =>
 some ((x.1,r27,x.2.2.1,(IntKind.wrap .i64 (x.2.2.2 - (1:Int)))),(getAt (0:Int) x.2.2.1 (toN r26)),(0:Int))
 else
 none
abbrev Zov:=Spec.shp Zhq Zlb Z50
def Zc2:Ctx:={ tb:=mkTb T2.tbl,fx:=[(196,[],Zox),(232,[],Zp0)],sum:=[],nt:=34,pin:=0,nr:=true,ys:=[] }
theorem Z51:Sound Tryz.prog 234 (Zov) :=
 Sound.shp (C:=Zc2) (fn:=Tryz.f234) (by kernel_rfl) (c:=bodyOf Tryz.f234) (by kernel_rfl) (by decide) (ctxOK mixed tbl_ok rfl ⟨Z55,Z5d,trivial⟩ trivial) (SumOK.of trivial) (by kernel_rfl) Zhq Zlb rfl (by decide) (by decide) rfl (by decide) rfl Z50 (fun x=>by kernel_rfl)
abbrev Zfo:Shape:={ sl:=sl_15,bl:=bl_12,ts:=[y42],pin:=0 }
abbrev Zj9:Shape:={ sl:=sl_2,bl:=bl_12,ts:=[(.int .i64),y42],pin:=1 }
def Zu (x:(T46)):Option (Int × T46) :=
 (Z50 x.1.2.2.1).bind fun r24 =>
 some (r24.2.1,(x.1.1,x.1.2.1,r24.1,x.1.2.2.2.1,(IntKind.wrap .i64 (x.1.2.2.2.2.1+(1:Int))),x.1.2.2.2.2.2),x.2)
abbrev Zmu:=Spec.shp Zfo Zj9 Zu
def Z9i:Ctx:={ tb:=mkTb T2.tbl,fx:=[(234,[],Zov)],sum:=[],nt:=28,pin:=1,nr:=true,ys:=[] }
theorem Zv:Sound Tryz.prog 207 (Zmu) :=
 Sound.shp (C:=Z9i) (fn:=Tryz.f207) (by kernel_rfl) (c:=bodyOf Tryz.f207) (by kernel_rfl) (by decide) (ctxOK mixed tbl_ok rfl ⟨Z51,trivial⟩ trivial) (SumOK.of trivial) (by kernel_rfl) Zfo Zj9 rfl (by decide) (by decide) rfl (by decide) rfl Zu (fun x=>by kernel_rfl)
abbrev Zfe:Shape:={ sl:=sl_27,bl:=[],ts:=[y40,y5],pin:=0 }
abbrev Ziz:Shape:={ sl:=sl_28,bl:=[],ts:=[y40,y30,(.int .i64)],pin:=0 }
def Z8 (x:T45):Option T48 :=
 (Za x.1).bind fun r18 =>
 bif (Bool.not r18) then
 some (((0:Int),false,((0:Int),(0:Int),([]:List Int),(0:Int)),(0:Int),(0:Int),([]:List T7),([]:List T7)),((0:Int),(0:Int),((0:Int),(0:Int),(0:Int)),(0:Int)),(1:Int))
 else
 (Ze x.2).bind fun r19 =>
 bif (Bool.not r19) then
 some (((0:Int),false,((0:Int),(0:Int),([]:List Int),(0:Int)),(0:Int),(0:Int),([]:List T7),([]:List T7)),((0:Int),(0:Int),((0:Int),(0:Int),(0:Int)),(0:Int)),(1:Int))
 else
 (Zq (x.1.2.2.2.2.2.1,x.1,x.2.1)).bind fun r20 =>
 bif (r20.1.1 != (Int.negSucc 0)) then
 bif (r20.2.1.2.2.2.1 == (1048576:Int)) then
 some (((0:Int),false,((0:Int),(0:Int),([]:List Int),(0:Int)),(0:Int),(0:Int),([]:List T7),([]:List T7)),((0:Int),(0:Int),((0:Int),(0:Int),(0:Int)),(0:Int)),(5:Int))
 else
 (Zo (r20.1.1,r20.2)).bind fun r21 =>
 (Zl r21).bind fun r22 =>
 bif r22.1 then
 some (x.1,((0:Int),(0:Int),r20.1,(0:Int)),(0:Int))
 else
 bif (decide (r21.1.2.2.1.2.2.2 > (0:Int))) then
 (Zu r21).bind fun r23 =>
 bif (r20.1.1 != (Int.negSucc 0)) then
 (Zw r23.2).bind fun r24 =>
 some (r24.2.1,((1:Int),r23.1,r20.1,r24.1),(0:Int))
 else
 some (r23.2.1,((1:Int),r23.1,r20.1,(0:Int)),(0:Int))
 else
 bif (r20.1.1 != (Int.negSucc 0)) then
 (Zs r21).bind fun r23 =>
 some (r23.2.1,((1:Int),r23.1,r20.1,r23.1),(0:Int))
 else
 bif r21.1.2.1 then
 some (x.1,((2:Int),(0:Int),r20.1,(0:Int)),(0:Int))
 else
 (Z72 (r21.1.2.2.2.2.2.2,x.2)).bind fun r23 =>
 bif (r23.2 != (0:Int)) then
 some (((0:Int),false,((0:Int),(0:Int),([]:List Int),(0:Int)),(0:Int),(0:Int),([]:List T7),([]:List T7)),((0:Int),(0:Int),((0:Int),(0:Int),(0:Int)),(0:Int)),r23.2)
 else
 some ((r21.1.1,r21.1.2.1,r21.1.2.2.1,r21.1.2.2.2.1,r21.1.2.2.2.2.1,r21.1.2.2.2.2.2.1,r23.1),((0:Int),(0:Int),r20.1,(0:Int)),(0:Int))
 else
 (Zl r20.2).bind fun r21 =>
 bif r21.1 then
 some (x.1,((0:Int),(0:Int),r20.1,(0:Int)),(0:Int))
 else
 bif (decide (r20.2.1.2.2.1.2.2.2 > (0:Int))) then
 (Zu r20.2).bind fun r22 =>
 bif (r20.1.1 != (Int.negSucc 0)) then
 (Zw r22.2).bind fun r23 =>
 some (r23.2.1,((1:Int),r22.1,r20.1,r23.1),(0:Int))
 else
 some (r22.2.1,((1:Int),r22.1,r20.1,(0:Int)),(0:Int))
 else
 bif (r20.1.1 != (Int.negSucc 0)) then
 (Zs r20.2).bind fun r22 =>
 some (r22.2.1,((1:Int),r22.1,r20.1,r22.1),(0:Int))
 else
 bif r20.2.1.2.1 then
 some (x.1,((2:Int),(0:Int),r20.1,(0:Int)),(0:Int))
 else
 (Z72 (r20.2.1.2.2.2.2.2.2,x.2)).bind fun r22 =>
 bif (r22.2 != (0:Int)) then
 some (((0:Int),false,((0:Int),(0:Int),([]:List Int),(0:Int)),(0:Int),(0:Int),([]:List T7),([]:List T7)),((0:Int),(0:Int),((0:Int),(0:Int),(0:Int)),(0:Int)),r22.2)
 else
 some ((r20.2.1.1,r20.2.1.2.1,r20.2.1.2.2.1,r20.2.1.2.2.2.1,r20.2.1.2.2.2.2.1,r20.2.1.2.2.2.2.2.1,r22.1),((0:Int),(0:Int),r20.1,(0:Int)),(0:Int))
abbrev Zmk:=Spec.shp Zfe Ziz Z8
def Z97:Ctx:={ tb:=mkTb T2.tbl,fx:=[(112,[],Zml),(206,[],Zmn),(167,[],Zms),(205,[],Zmr),(165,[],Spec.shpR Zfk Zj5 Zl),(207,[],Zmu),(208,[],Zmv),(209,[],Zmt),(171,[],Zpv)],sum:=[],nt:=130,pin:=0,nr:=true,ys:=[] }
theorem Z9:Sound Tryz.prog 169 (Zmk) :=
 Sound.shp (C:=Z97) (fn:=Tryz.f169) (by kernel_rfl) (c:=bodyOf Tryz.f169) (by kernel_rfl) (by decide) (ctxOK mixed tbl_ok rfl ⟨Zb,Zf,Zr,Zp,Zn,Zv,Zx,Zt,Z73,trivial⟩ trivial) (SumOK.of trivial) (by kernel_rfl) Zfe Ziz rfl (by decide) (by decide) rfl (by decide) rfl Z8 (fun x=>by kernel_rfl)
abbrev Zgh:Shape:={ sl:=sl_29,bl:=bl_2,ts:=[y5,(.int .i64),.bool,y39,y4,y18,y41,y19,y26,y27],pin:=0 }
abbrev Zk2:Shape:={ sl:=[(0,(.hole y30))],bl:=bl_2,ts:=[y30,y39,y4,y18,y41,y19,y26,y27],pin:=1 }
def Z2g (x:(T7 × Int × Bool × T47 × (Int × Int) × List (T17) × List T43 × List (T18) × List T29 × List (T20))):Option ((Int × T23) × T47 × (Int × Int) × List (T17) × List T43 × List (T18) × List T29 × List (T20)) :=
 bif x.2.2.1 then
 bif (inb x.2.1 (List.length x.2.2.2.2.2.2.1)) then
 (Zc ((getAt ((0:Int),false,((0:Int),(0:Int),([]:List Int),(0:Int)),(0:Int),(0:Int),([]:List T7),([]:List T7)) x.2.2.2.2.2.2.1 (toN x.2.1)),x.1)).bind fun r17 =>
 bif (inb x.2.1 (List.length x.2.2.2.2.2.2.1)) then
 some (r17.2.1,x.2.2.2.1,x.2.2.2.2.1,x.2.2.2.2.2.1,(List.set x.2.2.2.2.2.2.1 (toN x.2.1) r17.1),x.2.2.2.2.2.2.2.1,x.2.2.2.2.2.2.2.2.1,x.2.2.2.2.2.2.2.2.2)
 else
 none
 else
 none
 else
 bif (inb x.2.1 (List.length x.2.2.2.2.2.2.1)) then
 (Z8 ((getAt ((0:Int),false,((0:Int),(0:Int),([]:List Int),(0:Int)),(0:Int),(0:Int),([]:List T7),([]:List T7)) x.2.2.2.2.2.2.1 (toN x.2.1)),x.1)).bind fun r17 =>
 bif (inb x.2.1 (List.length x.2.2.2.2.2.2.1)) then
 some (r17.2.1,x.2.2.2.1,x.2.2.2.2.1,x.2.2.2.2.2.1,(List.set x.2.2.2.2.2.2.1 (toN x.2.1) r17.1),x.2.2.2.2.2.2.2.1,x.2.2.2.2.2.2.2.2.1,x.2.2.2.2.2.2.2.2.2)
 else
 none
 else
 none
abbrev Znn:=Spec.shp Zgh Zk2 Z2g
def Zaj:Ctx:={ tb:=mkTb T2.tbl,fx:=[(170,[],Zmm),(169,[],Zmk)],sum:=[],nt:=38,pin:=1,nr:=true,ys:=[] }
theorem Z2h:Sound Tryz.prog 124 (Znn) :=
 Sound.shp (C:=Zaj) (fn:=Tryz.f124) (by kernel_rfl) (c:=bodyOf Tryz.f124) (by kernel_rfl) (by decide) (ctxOK mixed tbl_ok rfl ⟨Zd,Z9,trivial⟩ trivial) (SumOK.of trivial) (by kernel_rfl) Zgh Zk2 rfl (by decide) (by decide) rfl (by decide) rfl Z2g (fun x=>by kernel_rfl)
abbrev Zgv:Shape:={ sl:=sl_25,bl:=bl_2,ts:=ts_10,pin:=0 }
abbrev Zkg:Shape:={ sl:=[],bl:=bl_2,ts:=ts_11,pin:=1 }
def Z39 (x:T58):Option T57 :=
 bif (inb x.1 (List.length x.2.2.2.1)) then
 some (x.2.1,x.2.2.1,(List.set x.2.2.2.1 (toN x.1) ((getAt ((0:Int),(0:Int),(0:Int),false) x.2.2.2.1 (toN x.1)).1,(getAt ((0:Int),(0:Int),(0:Int),false) x.2.2.2.1 (toN x.1)).2.1,(1:Int),(getAt ((0:Int),(0:Int),(0:Int),false) x.2.2.2.1 (toN x.1)).2.2.2)),x.2.2.2.2.1,x.2.2.2.2.2.1,x.2.2.2.2.2.2.1,x.2.2.2.2.2.2.2)
 else
 none
abbrev Zo1:=Spec.shp Zgv Zkg Z39
def Zaz:Ctx:={ tb:=mkTb T2.tbl,fx:=[],sum:=[],nt:=12,pin:=1,nr:=true,ys:=[] }
theorem Z3a:Sound Tryz.prog 125 (Zo1) :=
 Sound.shp (C:=Zaz) (fn:=Tryz.f125) (by kernel_rfl) (c:=bodyOf Tryz.f125) (by kernel_rfl) (by decide) (ctxOK mixed tbl_ok rfl trivial trivial) (SumOK.of trivial) (by kernel_rfl) Zgv Zkg rfl (by decide) (by decide) rfl (by decide) rfl Z39 (fun x=>by kernel_rfl)
abbrev Zfb:Shape:={ sl:=sl_13,bl:=[],ts:=[y40,(.int .i64)],pin:=0 }
abbrev Ziw:Shape:={ sl:=sl_13,bl:=[],ts:=[y40,(.int .i64)],pin:=0 }
def Z2 (x:T46):Option T46 :=
 (Za x.1).bind fun r23 =>
 bif (Bool.not r23) then
 some (((0:Int),false,((0:Int),(0:Int),([]:List Int),(0:Int)),(0:Int),(0:Int),([]:List T7),([]:List T7)),(1:Int))
 else
 bif (decide (x.2 < (0:Int))) then
 some (((0:Int),false,((0:Int),(0:Int),([]:List Int),(0:Int)),(0:Int),(0:Int),([]:List T7),([]:List T7)),(1:Int))
 else
 (Zo (x.2,x.1,x.2)).bind fun r24 =>
 some (r24.1,(0:Int))
abbrev Zmh:=Spec.shp Zfb Ziw Z2
def Z94:Ctx:={ tb:=mkTb T2.tbl,fx:=[(112,[],Zml),(205,[],Zmr)],sum:=[],nt:=26,pin:=0,nr:=true,ys:=[] }
theorem Z3:Sound Tryz.prog 168 (Zmh) :=
 Sound.shp (C:=Z94) (fn:=Tryz.f168) (by kernel_rfl) (c:=bodyOf Tryz.f168) (by kernel_rfl) (by decide) (ctxOK mixed tbl_ok rfl ⟨Zb,Zp,trivial⟩ trivial) (SumOK.of trivial) (by kernel_rfl) Zfb Ziw rfl (by decide) (by decide) rfl (by decide) rfl Z2 (fun x=>by kernel_rfl)
abbrev Zem:Shape:={ sl:=[(0,(.ptr 0 [])),(6,(.ptr 1 [])),(98,(.sl 2)),(99,(.hole (.int .i64))),(100,(.hole (.int .i64)))],bl:=[.var (.pr (.pr (.hole y39) (.pr (.sl 3) (.pr (.sl 2) (.pr (.sl 4) (.pr (.sl 5) (.hole y4)))))) (.sl 6)),.var (.hole y5),.row y40,.row y12,.row y15,.row y23,.row y24],ts:=[(.int .i64),(.int .i64),y39,y4,y5,y41,y18,y19,y26,y27],pin:=1 }
abbrev Zdr:List (ETag × Shape):=[(.exit 1,{ sl:=[],bl:=bl_2,ts:=ts_11,pin:=1 })]
def Z7q (x:(Int × Int × T47 × (Int × Int) × T7 × List T43 × List (T17) × List (T18) × List T29 × List (T20))):Option ((Int × Int × T47 × (Int × Int) × T7 × List T43 × List (T17) × List (T18) × List T29 × List (T20)) ⊕ (T57)) :=
 bif (decide (x.2.1 < x.1)) then
 bif (inb x.2.1 (List.length x.2.2.2.2.2.1)) then
 (Z2 ((getAt ((0:Int),false,((0:Int),(0:Int),([]:List Int),(0:Int)),(0:Int),(0:Int),([]:List T7),([]:List T7)) x.2.2.2.2.2.1 (toN x.2.1)),x.2.2.2.2.1.1)).bind fun r22 =>
 bif (inb x.2.1 (List.length x.2.2.2.2.2.1)) then
 some (.inl (x.1,(IntKind.wrap .i64 (x.2.1+(1:Int))),x.2.2.1,x.2.2.2.1,x.2.2.2.2.1,(List.set x.2.2.2.2.2.1 (toN x.2.1) r22.1),x.2.2.2.2.2.2.1,x.2.2.2.2.2.2.2.1,x.2.2.2.2.2.2.2.2.1,x.2.2.2.2.2.2.2.2.2))
 else
 none
 else
 none
 else
 some (.inr (x.2.2.1,x.2.2.2.1,x.2.2.2.2.2.2.1,x.2.2.2.2.2.1,x.2.2.2.2.2.2.2.1,x.2.2.2.2.2.2.2.2.1,x.2.2.2.2.2.2.2.2.2))
def Za9:Ctx:={ tb:=mkTb T2.tbl,fx:=[(78,[],Zni),(40,[],Znz),(120,[],Zng),(168,[],Zmh)],sum:=[],nt:=120,pin:=1,nr:=true,ys:=[] }
theorem Z7r:CSound Tryz.prog ⟨120,1,true⟩ (.loop (loopOf 13 Tryz.f123)) (Yah Zem Zdr (loop Z7q)) :=
 Y81 (C:=Za9) (ctxOK mixed tbl_ok rfl ⟨Z27,Z36,Z23,Z3,trivial⟩ trivial) (SumOK.of trivial) Zem Zdr rfl rfl Z7q (fun x=>by kernel_rfl)
abbrev Zg8:Shape:={ sl:=[(0,(.ptr 0 [])),(1,(.hole y5)),(2,(.hole (.int .i64))),(3,(.hole (.int .i64))),(4,(.hole (.int .i64)))],bl:=bl_2,ts:=[y5,(.int .i64),(.int .i64),(.int .i64),y39,y4,y18,y41,y19,y26,y27],pin:=0 }
abbrev Zjt:Shape:={ sl:=[],bl:=bl_2,ts:=ts_11,pin:=1 }
def Z1y (x:(T7 × Int × Int × Int × T47 × (Int × Int) × List (T17) × List T43 × List (T18) × List T29 × List (T20))):Option T57 :=
 (Z26 (x.1.1,x.2.2.2.2.1,x.2.2.2.2.2.1,x.2.2.2.2.2.2.1,x.2.2.2.2.2.2.2.1,x.2.2.2.2.2.2.2.2.1,x.2.2.2.2.2.2.2.2.2.1,x.2.2.2.2.2.2.2.2.2.2)).bind fun r18 =>
 bif (r18.1.1 == (1:Int)) then
 (Z35 (x.1.1,(3:Int),x.2.1,x.2.2.1,x.1.2.2,r18.2.1,r18.2.2.1,r18.2.2.2.1,r18.2.2.2.2.1,r18.2.2.2.2.2.1,r18.2.2.2.2.2.2.1,r18.2.2.2.2.2.2.2)).bind fun r19 =>
 (Z22 (x.1.1,r19.2.1,r19.2.2.1,r19.2.2.2.1,r19.2.2.2.2.1,r19.2.2.2.2.2.1,r19.2.2.2.2.2.2.1,r19.2.2.2.2.2.2.2)).bind fun r20 =>
 (loop Z7q ((((List.length r20.2.2.2.1):Nat):Int),(0:Int),r20.1,r20.2.1,x.1,r20.2.2.2.1,r20.2.2.1,r20.2.2.2.2.1,r20.2.2.2.2.2.1,r20.2.2.2.2.2.2)).bind fun r21 =>
 some (r21.1,r21.2.1,r21.2.2.1,r21.2.2.2.1,r21.2.2.2.2.1,r21.2.2.2.2.2.1,r21.2.2.2.2.2.2)
 else
 bif (r18.1.1 == (4:Int)) then
 bif (inb r18.1.2.1 (List.length r18.2.1.2.2.2.2.1)) then
 bif (inb x.1.2.1 (List.length (getAt (([]:List T0),false) r18.2.1.2.2.2.2.1 (toN r18.1.2.1)).1)) then
 bif (getAt (false,(0:Int)) (getAt (([]:List T0),false) r18.2.1.2.2.2.2.1 (toN r18.1.2.1)).1 (toN x.1.2.1)).1 then
 (Z35 (x.1.1,(3:Int),x.2.1,x.2.2.1,x.1.2.2,r18.2.1,r18.2.2.1,r18.2.2.2.1,r18.2.2.2.2.1,r18.2.2.2.2.2.1,r18.2.2.2.2.2.2.1,r18.2.2.2.2.2.2.2)).bind fun r19 =>
 (Z22 (x.1.1,r19.2.1,r19.2.2.1,r19.2.2.2.1,r19.2.2.2.2.1,r19.2.2.2.2.2.1,r19.2.2.2.2.2.2.1,r19.2.2.2.2.2.2.2)).bind fun r20 =>
 (loop Z7q ((((List.length r20.2.2.2.1):Nat):Int),(0:Int),r20.1,r20.2.1,x.1,r20.2.2.2.1,r20.2.2.1,r20.2.2.2.2.1,r20.2.2.2.2.2.1,r20.2.2.2.2.2.2)).bind fun r21 =>
 some (r21.1,r21.2.1,r21.2.2.1,r21.2.2.2.1,r21.2.2.2.2.1,r21.2.2.2.2.2.1,r21.2.2.2.2.2.2)
 else
 bif (x.2.2.2.1 == (2:Int)) then
 (Z35 (x.1.1,(6:Int),x.2.1,(0:Int),x.1.2.2,r18.2.1,r18.2.2.1,r18.2.2.2.1,r18.2.2.2.2.1,r18.2.2.2.2.2.1,r18.2.2.2.2.2.2.1,r18.2.2.2.2.2.2.2)).bind fun r19 =>
 bif (inb x.1.1 (List.length r19.2.2.2.1)) then
 (Z22 (x.1.1,r19.2.1,r19.2.2.1,(List.set r19.2.2.2.1 (toN x.1.1) ((getAt ((0:Int),(0:Int),(0:Int),false) r19.2.2.2.1 (toN x.1.1)).1,(getAt ((0:Int),(0:Int),(0:Int),false) r19.2.2.2.1 (toN x.1.1)).2.1,(getAt ((0:Int),(0:Int),(0:Int),false) r19.2.2.2.1 (toN x.1.1)).2.2.1,true)),r19.2.2.2.2.1,r19.2.2.2.2.2.1,r19.2.2.2.2.2.2.1,r19.2.2.2.2.2.2.2)).bind fun r20 =>
 (loop Z7q ((((List.length r20.2.2.2.1):Nat):Int),(0:Int),r20.1,r20.2.1,x.1,r20.2.2.2.1,r20.2.2.1,r20.2.2.2.2.1,r20.2.2.2.2.2.1,r20.2.2.2.2.2.2)).bind fun r21 =>
 some (r21.1,r21.2.1,r21.2.2.1,r21.2.2.2.1,r21.2.2.2.2.1,r21.2.2.2.2.2.1,r21.2.2.2.2.2.2)
 else
 none
 else
 (Z35 (x.1.1,(5:Int),x.2.1,x.2.2.1,x.1.2.2,r18.2.1,r18.2.2.1,r18.2.2.2.1,r18.2.2.2.2.1,r18.2.2.2.2.2.1,r18.2.2.2.2.2.2.1,r18.2.2.2.2.2.2.2)).bind fun r19 =>
 bif (inb x.1.1 (List.length r19.2.2.2.1)) then
 (Z22 (x.1.1,r19.2.1,r19.2.2.1,(List.set r19.2.2.2.1 (toN x.1.1) ((getAt ((0:Int),(0:Int),(0:Int),false) r19.2.2.2.1 (toN x.1.1)).1,(getAt ((0:Int),(0:Int),(0:Int),false) r19.2.2.2.1 (toN x.1.1)).2.1,(getAt ((0:Int),(0:Int),(0:Int),false) r19.2.2.2.1 (toN x.1.1)).2.2.1,false)),r19.2.2.2.2.1,r19.2.2.2.2.2.1,r19.2.2.2.2.2.2.1,r19.2.2.2.2.2.2.2)).bind fun r20 =>
 (loop Z7q ((((List.length r20.2.2.2.1):Nat):Int),(0:Int),r20.1,r20.2.1,x.1,r20.2.2.2.1,r20.2.2.1,r20.2.2.2.2.1,r20.2.2.2.2.2.1,r20.2.2.2.2.2.2)).bind fun r21 =>
 some (r21.1,r21.2.1,r21.2.2.1,r21.2.2.2.1,r21.2.2.2.2.1,r21.2.2.2.2.2.1,r21.2.2.2.2.2.2)
 else
 none
 else
 none
 else
 none
 else
 bif (x.2.2.2.1 == (2:Int)) then
 (Z35 (x.1.1,(6:Int),x.2.1,(0:Int),x.1.2.2,r18.2.1,r18.2.2.1,r18.2.2.2.1,r18.2.2.2.2.1,r18.2.2.2.2.2.1,r18.2.2.2.2.2.2.1,r18.2.2.2.2.2.2.2)).bind fun r19 =>
 bif (inb x.1.1 (List.length r19.2.2.2.1)) then
 (Z22 (x.1.1,r19.2.1,r19.2.2.1,(List.set r19.2.2.2.1 (toN x.1.1) ((getAt ((0:Int),(0:Int),(0:Int),false) r19.2.2.2.1 (toN x.1.1)).1,(getAt ((0:Int),(0:Int),(0:Int),false) r19.2.2.2.1 (toN x.1.1)).2.1,(getAt ((0:Int),(0:Int),(0:Int),false) r19.2.2.2.1 (toN x.1.1)).2.2.1,true)),r19.2.2.2.2.1,r19.2.2.2.2.2.1,r19.2.2.2.2.2.2.1,r19.2.2.2.2.2.2.2)).bind fun r20 =>
 (loop Z7q ((((List.length r20.2.2.2.1):Nat):Int),(0:Int),r20.1,r20.2.1,x.1,r20.2.2.2.1,r20.2.2.1,r20.2.2.2.2.1,r20.2.2.2.2.2.1,r20.2.2.2.2.2.2)).bind fun r21 =>
 some (r21.1,r21.2.1,r21.2.2.1,r21.2.2.2.1,r21.2.2.2.2.1,r21.2.2.2.2.2.1,r21.2.2.2.2.2.2)
 else
 none
 else
 (Z35 (x.1.1,(5:Int),x.2.1,x.2.2.1,x.1.2.2,r18.2.1,r18.2.2.1,r18.2.2.2.1,r18.2.2.2.2.1,r18.2.2.2.2.2.1,r18.2.2.2.2.2.2.1,r18.2.2.2.2.2.2.2)).bind fun r19 =>
 bif (inb x.1.1 (List.length r19.2.2.2.1)) then
 (Z22 (x.1.1,r19.2.1,r19.2.2.1,(List.set r19.2.2.2.1 (toN x.1.1) ((getAt ((0:Int),(0:Int),(0:Int),false) r19.2.2.2.1 (toN x.1.1)).1,(getAt ((0:Int),(0:Int),(0:Int),false) r19.2.2.2.1 (toN x.1.1)).2.1,(getAt ((0:Int),(0:Int),(0:Int),false) r19.2.2.2.1 (toN x.1.1)).2.2.1,false)),r19.2.2.2.2.1,r19.2.2.2.2.2.1,r19.2.2.2.2.2.2.1,r19.2.2.2.2.2.2.2)).bind fun r20 =>
 (loop Z7q ((((List.length r20.2.2.2.1):Nat):Int),(0:Int),r20.1,r20.2.1,x.1,r20.2.2.2.1,r20.2.2.1,r20.2.2.2.2.1,r20.2.2.2.2.2.1,r20.2.2.2.2.2.2)).bind fun r21 =>
 some (r21.1,r21.2.1,r21.2.2.1,r21.2.2.2.1,r21.2.2.2.2.1,r21.2.2.2.2.2.1,r21.2.2.2.2.2.2)
 else
 none
abbrev Zne:=Spec.shp Zg8 Zjt Z1y
def Za8:Ctx:={ tb:=mkTb T2.tbl,fx:=[(78,[],Zni),(40,[],Znz),(120,[],Zng),(168,[],Zmh)],sum:=[(0,13,Yah Zem Zdr (loop Z7q))],nt:=120,pin:=1,nr:=true,ys:=[] }
theorem Z1z:Sound Tryz.prog 123 (Zne) :=
 Sound.shp (C:=Za8) (fn:=Tryz.f123) (by kernel_rfl) (c:=bodyOf Tryz.f123) (by kernel_rfl) (by decide) (ctxOK mixed tbl_ok rfl ⟨Z27,Z36,Z23,Z3,trivial⟩ trivial) (SumOK.of ⟨(Yaj (d:=.loop (loopOf 13 Tryz.f123)) (by kernel_rfl) Z7r),trivial⟩) (by kernel_rfl) Zg8 Zjt rfl (by decide) (by decide) rfl (by decide) rfl Z1y (fun x=>by kernel_rfl)
abbrev Zgj:Shape:={ sl:=sl_29,bl:=bl_2,ts:=[y5,(.int .i64),.bool,y39,y4,y18,y41,y19,y26,y27],pin:=0 }
abbrev Zk4:Shape:={ sl:=[],bl:=bl_2,ts:=ts_11,pin:=1 }
def Z2k (x:(T7 × Int × Bool × T47 × (Int × Int) × List (T17) × List T43 × List (T18) × List T29 × List (T20))):Option T57 :=
 (Z2g (x.1,x.2.1,x.2.2.1,x.2.2.2.1,x.2.2.2.2.1,x.2.2.2.2.2.1,x.2.2.2.2.2.2.1,x.2.2.2.2.2.2.2.1,x.2.2.2.2.2.2.2.2.1,x.2.2.2.2.2.2.2.2.2)).bind fun r16 =>
 bif (r16.1.1 == (0:Int)) then
 (Z39 (x.1.1,r16.2.1,r16.2.2.1,r16.2.2.2.1,r16.2.2.2.2.1,r16.2.2.2.2.2.1,r16.2.2.2.2.2.2.1,r16.2.2.2.2.2.2.2)).bind fun r17 =>
 some (r17.1,r17.2.1,r17.2.2.1,r17.2.2.2.1,r17.2.2.2.2.1,r17.2.2.2.2.2.1,r17.2.2.2.2.2.2)
 else
 bif (r16.1.1 == (3:Int)) then
 some (r16.2.1,(r16.2.2.1.1,(3:Int)),r16.2.2.2.1,r16.2.2.2.2.1,r16.2.2.2.2.2.1,r16.2.2.2.2.2.2.1,r16.2.2.2.2.2.2.2)
 else
 bif (r16.1.2.2.1.1 != (Int.negSucc 0)) then
 (Z1y (r16.1.2.2.1,x.2.1,r16.1.2.2.2,(1:Int),r16.2.1,r16.2.2.1,r16.2.2.2.1,r16.2.2.2.2.1,r16.2.2.2.2.2.1,r16.2.2.2.2.2.2.1,r16.2.2.2.2.2.2.2)).bind fun r17 =>
 (Z1y (x.1,x.2.1,r16.1.2.1,r16.1.1,r17.1,r17.2.1,r17.2.2.1,r17.2.2.2.1,r17.2.2.2.2.1,r17.2.2.2.2.2.1,r17.2.2.2.2.2.2)).bind fun r18 =>
 some (r18.1,r18.2.1,r18.2.2.1,r18.2.2.2.1,r18.2.2.2.2.1,r18.2.2.2.2.2.1,r18.2.2.2.2.2.2)
 else
 (Z1y (x.1,x.2.1,r16.1.2.1,r16.1.1,r16.2.1,r16.2.2.1,r16.2.2.2.1,r16.2.2.2.2.1,r16.2.2.2.2.2.1,r16.2.2.2.2.2.2.1,r16.2.2.2.2.2.2.2)).bind fun r17 =>
 some (r17.1,r17.2.1,r17.2.2.1,r17.2.2.2.1,r17.2.2.2.2.1,r17.2.2.2.2.2.1,r17.2.2.2.2.2.2)
abbrev Znp:=Spec.shp Zgj Zk4 Z2k
def Zal:Ctx:={ tb:=mkTb T2.tbl,fx:=[(124,[],Znn),(125,[],Zo1),(123,[],Zne)],sum:=[],nt:=47,pin:=1,nr:=true,ys:=[] }
theorem Z2l:Sound Tryz.prog 121 (Znp) :=
 Sound.shp (C:=Zal) (fn:=Tryz.f121) (by kernel_rfl) (c:=bodyOf Tryz.f121) (by kernel_rfl) (by decide) (ctxOK mixed tbl_ok rfl ⟨Z2h,Z3a,Z1z,trivial⟩ trivial) (SumOK.of trivial) (by kernel_rfl) Zgj Zk4 rfl (by decide) (by decide) rfl (by decide) rfl Z2k (fun x=>by kernel_rfl)
abbrev Zgn:Shape:={ sl:=sl_26,bl:=bl_2,ts:=ts_14,pin:=0 }
abbrev Zk8:Shape:={ sl:=[],bl:=bl_2,ts:=ts_11,pin:=1 }
def Z2s (x:T60):Option T57 :=
 (Z35 (x.1.1,(2:Int),x.2.1.2.1,(0:Int),(Int.negSucc 0),x.2.2.1,x.2.2.2.1,x.2.2.2.2.1,x.2.2.2.2.2.1,x.2.2.2.2.2.2.1,x.2.2.2.2.2.2.2.1,x.2.2.2.2.2.2.2.2)).bind fun r14 =>
 (Z2k ((x.1.1,(0:Int),r14.1),x.2.1.2.1,true,r14.2.1,r14.2.2.1,r14.2.2.2.1,r14.2.2.2.2.1,r14.2.2.2.2.2.1,r14.2.2.2.2.2.2.1,r14.2.2.2.2.2.2.2)).bind fun r15 =>
 some (r15.1,r15.2.1,r15.2.2.1,r15.2.2.2.1,r15.2.2.2.2.1,r15.2.2.2.2.2.1,r15.2.2.2.2.2.2)
abbrev Znt:=Spec.shp Zgn Zk8 Z2s
def Zaq:Ctx:={ tb:=mkTb T2.tbl,fx:=[(40,[],Znz),(121,[],Znp)],sum:=[],nt:=21,pin:=1,nr:=true,ys:=[] }
theorem Z2t:Sound Tryz.prog 65 (Znt) :=
 Sound.shp (C:=Zaq) (fn:=Tryz.f65) (by kernel_rfl) (c:=bodyOf Tryz.f65) (by kernel_rfl) (by decide) (ctxOK mixed tbl_ok rfl ⟨Z36,Z2l,trivial⟩ trivial) (SumOK.of trivial) (by kernel_rfl) Zgn Zk8 rfl (by decide) (by decide) rfl (by decide) rfl Z2s (fun x=>by kernel_rfl)
abbrev Zgl:Shape:={ sl:=sl_26,bl:=bl_2,ts:=ts_14,pin:=0 }
abbrev Zk6:Shape:={ sl:=[],bl:=bl_2,ts:=ts_11,pin:=1 }
def Z2o (x:T60):Option T57 :=
 (Z35 (x.1.1,(4:Int),x.2.1.2.1,(0:Int),(Int.negSucc 0),x.2.2.1,x.2.2.2.1,x.2.2.2.2.1,x.2.2.2.2.2.1,x.2.2.2.2.2.2.1,x.2.2.2.2.2.2.2.1,x.2.2.2.2.2.2.2.2)).bind fun r14 =>
 (Z2k ((x.1.1,(0:Int),r14.1),x.2.1.2.1,false,r14.2.1,r14.2.2.1,r14.2.2.2.1,r14.2.2.2.2.1,r14.2.2.2.2.2.1,r14.2.2.2.2.2.2.1,r14.2.2.2.2.2.2.2)).bind fun r15 =>
 some (r15.1,r15.2.1,r15.2.2.1,r15.2.2.2.1,r15.2.2.2.2.1,r15.2.2.2.2.2.1,r15.2.2.2.2.2.2)
abbrev Znr:=Spec.shp Zgl Zk6 Z2o
def Zan:Ctx:={ tb:=mkTb T2.tbl,fx:=[(40,[],Znz),(121,[],Znp)],sum:=[],nt:=21,pin:=1,nr:=true,ys:=[] }
theorem Z2p:Sound Tryz.prog 66 (Znr) :=
 Sound.shp (C:=Zan) (fn:=Tryz.f66) (by kernel_rfl) (c:=bodyOf Tryz.f66) (by kernel_rfl) (by decide) (ctxOK mixed tbl_ok rfl ⟨Z36,Z2l,trivial⟩ trivial) (SumOK.of trivial) (by kernel_rfl) Zgl Zk6 rfl (by decide) (by decide) rfl (by decide) rfl Z2o (fun x=>by kernel_rfl)
abbrev Zfa:Shape:={ sl:=[(0,(.hole y40))],bl:=[],ts:=[y40],pin:=0 }
abbrev Ziv:Shape:={ sl:=[(0,(.hole y40)),(1,(.hole (.slice y5))),(2,(.hole .bool)),(3,(.hole (.int .i64)))],bl:=[],ts:=[y40,(.slice y5),.bool,(.int .i64)],pin:=0 }
def Z0 (x:T43):Option ((Int × T40) × List (T7) × Bool × Int) :=
 (Za x).bind fun r15 =>
 bif (Bool.not r15) then
 some (((0:Int),false,((0:Int),(0:Int),([]:List Int),(0:Int)),(0:Int),(0:Int),([]:List T7),([]:List T7)),([]:List T7),false,(1:Int))
 else
 bif (decide (x.1 < (0:Int))) then
 some (x,([]:List T7),true,(0:Int))
 else
 bif x.2.1 then
 some (x,([]:List T7),true,(0:Int))
 else
 bif (decide ((((List.length x.2.2.2.2.2.1):Nat):Int) > (0:Int))) then
 some (x,([]:List T7),true,(0:Int))
 else
 some ((x.1,true,x.2.2.1,x.2.2.2.1,x.2.2.2.2.1,x.2.2.2.2.2.1,([]:List T7)),x.2.2.2.2.2.2,false,(0:Int))
abbrev Zmg:=Spec.shp Zfa Ziv Z0
def Z93:Ctx:={ tb:=mkTb T2.tbl,fx:=[(112,[],Zml)],sum:=[],nt:=31,pin:=0,nr:=true,ys:=[] }
theorem Z1:Sound Tryz.prog 122 (Zmg) :=
 Sound.shp (C:=Z93) (fn:=Tryz.f122) (by kernel_rfl) (c:=bodyOf Tryz.f122) (by kernel_rfl) (by decide) (ctxOK mixed tbl_ok rfl ⟨Zb,trivial⟩ trivial) (SumOK.of trivial) (by kernel_rfl) Zfa Ziv rfl (by decide) (by decide) rfl (by decide) rfl Z0 (fun x=>by kernel_rfl)
abbrev Zep:Shape:={ sl:=[(0,(.ptr 0 [])),(5,(.ptr 1 [])),(10,(.mp 2)),(53,(.hole (.slice y5))),(54,(.hole (.int .i64))),(55,(.hole (.int .i64)))],bl:=[.var (.pr (.pr (.hole y39) (.pr (.sl 3) (.pr (.sl 4) (.pr (.sl 5) (.pr (.sl 6) (.hole y4)))))) (.sl 7)),.var (.hole y5),.mp (.int .i64) (.int .i64),.row y12,.row y40,.row y15,.row y23,.row y24],ts:=[(.slice y5),(.int .i64),(.int .i64),y39,y4,y5,(.slice y4),y18,y41,y19,y26,y27],pin:=1 }
abbrev Zdu:List (ETag × Shape):=[(.exit 0,{ sl:=[],bl:=bl_2,ts:=ts_11,pin:=1 })]
def Z7w (x:(List (T7) × Int × Int × T47 × (Int × Int) × T7 × List (Int × Int) × List (T17) × List T43 × List (T18) × List T29 × List (T20))):Option ((List (T7) × Int × Int × T47 × (Int × Int) × T7 × List (Int × Int) × List (T17) × List T43 × List (T18) × List T29 × List (T20)) ⊕ (T57)) :=
 bif (decide (x.2.2.1 < x.2.1)) then
 bif (inb x.2.2.1 (List.length x.1)) then
 bif ((@mlook (Int) (Int) (Ty.beq (.int .i64)) (Ty.zero (.int .i64)) (getAt ((0:Int),(0:Int),(0:Int)) x.1 (toN x.2.2.1)).1 (@mput (Int) (Int) (Ty.beq (.int .i64)) (getAt ((0:Int),(0:Int),(0:Int)) x.1 (toN x.2.2.1)).1 (IntKind.wrap .i64 ((@mlook (Int) (Int) (Ty.beq (.int .i64)) (Ty.zero (.int .i64)) (getAt ((0:Int),(0:Int),(0:Int)) x.1 (toN x.2.2.1)).1 x.2.2.2.2.2.2.1)+(1:Int))) x.2.2.2.2.2.2.1)) == (1:Int)) then
 (Z1y ((getAt ((0:Int),(0:Int),(0:Int)) x.1 (toN x.2.2.1)),x.2.2.2.2.2.1.2.1,(0:Int),(2:Int),x.2.2.2.1,x.2.2.2.2.1,x.2.2.2.2.2.2.2.1,x.2.2.2.2.2.2.2.2.1,x.2.2.2.2.2.2.2.2.2.1,x.2.2.2.2.2.2.2.2.2.2.1,x.2.2.2.2.2.2.2.2.2.2.2)).bind fun r18 =>
 some (.inl (x.1,x.2.1,(IntKind.wrap .i64 (x.2.2.1+(1:Int))),r18.1,r18.2.1,x.2.2.2.2.2.1,(@mput (Int) (Int) (Ty.beq (.int .i64)) (getAt ((0:Int),(0:Int),(0:Int)) x.1 (toN x.2.2.1)).1 (IntKind.wrap .i64 ((@mlook (Int) (Int) (Ty.beq (.int .i64)) (Ty.zero (.int .i64)) (getAt ((0:Int),(0:Int),(0:Int)) x.1 (toN x.2.2.1)).1 x.2.2.2.2.2.2.1)+(1:Int))) x.2.2.2.2.2.2.1),r18.2.2.1,r18.2.2.2.1,r18.2.2.2.2.1,r18.2.2.2.2.2.1,r18.2.2.2.2.2.2))
 else
 some (.inl (x.1,x.2.1,(IntKind.wrap .i64 (x.2.2.1+(1:Int))),x.2.2.2.1,x.2.2.2.2.1,x.2.2.2.2.2.1,(@mput (Int) (Int) (Ty.beq (.int .i64)) (getAt ((0:Int),(0:Int),(0:Int)) x.1 (toN x.2.2.1)).1 (IntKind.wrap .i64 ((@mlook (Int) (Int) (Ty.beq (.int .i64)) (Ty.zero (.int .i64)) (getAt ((0:Int),(0:Int),(0:Int)) x.1 (toN x.2.2.1)).1 x.2.2.2.2.2.2.1)+(1:Int))) x.2.2.2.2.2.2.1),x.2.2.2.2.2.2.2.1,x.2.2.2.2.2.2.2.2.1,x.2.2.2.2.2.2.2.2.2.1,x.2.2.2.2.2.2.2.2.2.2.1,x.2.2.2.2.2.2.2.2.2.2.2))
 else
 none
 else
 some (.inr (x.2.2.2.1,x.2.2.2.2.1,x.2.2.2.2.2.2.2.1,x.2.2.2.2.2.2.2.2.1,x.2.2.2.2.2.2.2.2.2.1,x.2.2.2.2.2.2.2.2.2.2.1,x.2.2.2.2.2.2.2.2.2.2.2))
def Zav:Ctx:={ tb:=mkTb T2.tbl,fx:=[(122,[],Zmg),(40,[],Znz),(120,[],Zng),(123,[],Zne)],sum:=[],nt:=75,pin:=1,nr:=true,ys:=[] }
theorem Z7x:CSound Tryz.prog ⟨75,1,true⟩ (.loop (loopOf 10 Tryz.f67)) (Yah Zep Zdu (loop Z7w)) :=
 Y81 (C:=Zav) (ctxOK mixed tbl_ok rfl ⟨Z1,Z36,Z23,Z1z,trivial⟩ trivial) (SumOK.of trivial) Zep Zdu rfl rfl Z7w (fun x=>by kernel_rfl)
abbrev Zgr:Shape:={ sl:=sl_26,bl:=bl_2,ts:=ts_14,pin:=0 }
abbrev Zkc:Shape:={ sl:=[],bl:=bl_2,ts:=ts_11,pin:=1 }
def Z31 (x:T60):Option T57 :=
 bif (inb x.2.1.2.1 (List.length x.2.2.2.2.2.1)) then
 (Z0 (getAt ((0:Int),false,((0:Int),(0:Int),([]:List Int),(0:Int)),(0:Int),(0:Int),([]:List T7),([]:List T7)) x.2.2.2.2.2.1 (toN x.2.1.2.1))).bind fun r14 =>
 bif r14.2.2.1 then
 some (x.2.2.1,(x.2.2.2.1.1,(3:Int)),x.2.2.2.2.1,x.2.2.2.2.2.1,x.2.2.2.2.2.2.1,x.2.2.2.2.2.2.2.1,x.2.2.2.2.2.2.2.2)
 else
 bif (inb x.2.1.2.1 (List.length x.2.2.2.2.2.1)) then
 (Z35 (x.1.1,(7:Int),x.2.1.2.1,(0:Int),(Int.negSucc 0),x.2.2.1,x.2.2.2.1,x.2.2.2.2.1,(List.set x.2.2.2.2.2.1 (toN x.2.1.2.1) r14.1),x.2.2.2.2.2.2.1,x.2.2.2.2.2.2.2.1,x.2.2.2.2.2.2.2.2)).bind fun r15 =>
 (Z22 (x.1.1,r15.2.1,r15.2.2.1,r15.2.2.2.1,r15.2.2.2.2.1,r15.2.2.2.2.2.1,r15.2.2.2.2.2.2.1,r15.2.2.2.2.2.2.2)).bind fun r16 =>
 (loop Z7w (r14.2.1,(((List.length r14.2.1):Nat):Int),(0:Int),r16.1,r16.2.1,x.2.1,([]:List (Int × Int)),r16.2.2.1,r16.2.2.2.1,r16.2.2.2.2.1,r16.2.2.2.2.2.1,r16.2.2.2.2.2.2)).bind fun r17 =>
 some (r17.1,r17.2.1,r17.2.2.1,r17.2.2.2.1,r17.2.2.2.2.1,r17.2.2.2.2.2.1,r17.2.2.2.2.2.2)
 else
 none
 else
 none
abbrev Znx:=Spec.shp Zgr Zkc Z31
def Zau:Ctx:={ tb:=mkTb T2.tbl,fx:=[(122,[],Zmg),(40,[],Znz),(120,[],Zng),(123,[],Zne)],sum:=[(0,10,Yah Zep Zdu (loop Z7w))],nt:=75,pin:=1,nr:=true,ys:=[] }
theorem Z32:Sound Tryz.prog 67 (Znx) :=
 Sound.shp (C:=Zau) (fn:=Tryz.f67) (by kernel_rfl) (c:=bodyOf Tryz.f67) (by kernel_rfl) (by decide) (ctxOK mixed tbl_ok rfl ⟨Z1,Z36,Z23,Z1z,trivial⟩ trivial) (SumOK.of ⟨(Yaj (d:=.loop (loopOf 10 Tryz.f67)) (by kernel_rfl) Z7x),trivial⟩) (by kernel_rfl) Zgr Zkc rfl (by decide) (by decide) rfl (by decide) rfl Z31 (fun x=>by kernel_rfl)
abbrev Zeo:Shape:={ sl:=[(0,(.ptr 0 [])),(4,(.ptr 1 [])),(6,(.hole (.int .i64))),(28,(.hole (.slice y2))),(29,(.hole (.int .i64))),(30,(.hole (.int .i64)))],bl:=bl_15,ts:=[(.int .i64),(.slice y2),(.int .i64),(.int .i64),y39,y4,y4,y18,y41,y19,y26,y27],pin:=1 }
abbrev Zdt:List (ETag × Shape):=[(.exit 1,{ sl:=[(0,(.ptr 0 [])),(4,(.ptr 1 []))],bl:=bl_15,ts:=[y39,y4,y4,y18,y41,y19,y26,y27],pin:=1 })]
def Z7u (x:(Int × List T0 × Int × Int × T47 × (Int × Int) × (Int × Int) × List (T17) × List T43 × List (T18) × List T29 × List (T20))):Option ((Int × List T0 × Int × Int × T47 × (Int × Int) × (Int × Int) × List (T17) × List T43 × List (T18) × List T29 × List (T20)) ⊕ (T47 × (Int × Int) × (Int × Int) × List (T17) × List T43 × List (T18) × List T29 × List (T20))) :=
 bif (decide (x.2.2.2.1 < x.2.2.1)) then
 bif (inb x.2.2.2.1 (List.length x.2.1)) then
 (Z2g ((x.2.2.2.2.2.2.1.1,x.2.2.2.1,x.1),(getAt (false,(0:Int)) x.2.1 (toN x.2.2.2.1)).2,(getAt (false,(0:Int)) x.2.1 (toN x.2.2.2.1)).1,x.2.2.2.2.1,x.2.2.2.2.2.1,x.2.2.2.2.2.2.2.1,x.2.2.2.2.2.2.2.2.1,x.2.2.2.2.2.2.2.2.2.1,x.2.2.2.2.2.2.2.2.2.2.1,x.2.2.2.2.2.2.2.2.2.2.2)).bind fun r16 =>
 some (.inl (x.1,x.2.1,x.2.2.1,(IntKind.wrap .i64 (x.2.2.2.1+(1:Int))),r16.2.1,r16.2.2.1,x.2.2.2.2.2.2.1,r16.2.2.2.1,r16.2.2.2.2.1,r16.2.2.2.2.2.1,r16.2.2.2.2.2.2.1,r16.2.2.2.2.2.2.2))
 else
 none
 else
 some (.inr (x.2.2.2.2.1,x.2.2.2.2.2.1,x.2.2.2.2.2.2.1,x.2.2.2.2.2.2.2.1,x.2.2.2.2.2.2.2.2.1,x.2.2.2.2.2.2.2.2.2.1,x.2.2.2.2.2.2.2.2.2.2.1,x.2.2.2.2.2.2.2.2.2.2.2))
def Zap:Ctx:={ tb:=mkTb T2.tbl,fx:=[(40,[],Znz),(121,[],Znp),(120,[],Zng),(124,[],Znn)],sum:=[],nt:=87,pin:=1,nr:=true,ys:=[] }
theorem Z7v:CSound Tryz.prog ⟨87,1,true⟩ (.loop (loopOf 5 Tryz.f68)) (Yah Zeo Zdt (loop Z7u)) :=
 Y81 (C:=Zap) (ctxOK mixed tbl_ok rfl ⟨Z36,Z2l,Z23,Z2h,trivial⟩ trivial) (SumOK.of trivial) Zeo Zdt rfl rfl Z7u (fun x=>by kernel_rfl)
abbrev Zgm:Shape:={ sl:=sl_26,bl:=bl_2,ts:=ts_14,pin:=0 }
abbrev Zk7:Shape:={ sl:=[],bl:=bl_2,ts:=ts_11,pin:=1 }
def Z2q (x:T60):Option T57 :=
 (Z35 (x.1.1,(8:Int),x.2.1.2.1,(0:Int),(Int.negSucc 0),x.2.2.1,x.2.2.2.1,x.2.2.2.2.1,x.2.2.2.2.2.1,x.2.2.2.2.2.2.1,x.2.2.2.2.2.2.2.1,x.2.2.2.2.2.2.2.2)).bind fun r14 =>
 bif (inb x.2.1.2.1 (List.length r14.2.1.2.2.2.2.1)) then
 bif (x.1.2 != (Int.negSucc 0)) then
 bif (inb x.1.2 (List.length (getAt (([]:List T0),false) r14.2.1.2.2.2.2.1 (toN x.2.1.2.1)).1)) then
 (Z2k ((x.1.1,x.1.2,r14.1),(getAt (false,(0:Int)) (getAt (([]:List T0),false) r14.2.1.2.2.2.2.1 (toN x.2.1.2.1)).1 (toN x.1.2)).2,(getAt (false,(0:Int)) (getAt (([]:List T0),false) r14.2.1.2.2.2.2.1 (toN x.2.1.2.1)).1 (toN x.1.2)).1,r14.2.1,r14.2.2.1,r14.2.2.2.1,r14.2.2.2.2.1,r14.2.2.2.2.2.1,r14.2.2.2.2.2.2.1,r14.2.2.2.2.2.2.2)).bind fun r15 =>
 some (r15.1,r15.2.1,r15.2.2.1,r15.2.2.2.1,r15.2.2.2.2.1,r15.2.2.2.2.2.1,r15.2.2.2.2.2.2)
 else
 none
 else
 bif (getAt (([]:List T0),false) r14.2.1.2.2.2.2.1 (toN x.2.1.2.1)).2 then
 (Z35 (x.1.1,(9:Int),x.2.1.2.1,(0:Int),r14.1,r14.2.1,r14.2.2.1,r14.2.2.2.1,r14.2.2.2.2.1,r14.2.2.2.2.2.1,r14.2.2.2.2.2.2.1,r14.2.2.2.2.2.2.2)).bind fun r15 =>
 (Z22 (x.1.1,r15.2.1,r15.2.2.1,r15.2.2.2.1,r15.2.2.2.2.1,r15.2.2.2.2.2.1,r15.2.2.2.2.2.2.1,r15.2.2.2.2.2.2.2)).bind fun r16 =>
 some (r16.1,r16.2.1,r16.2.2.1,r16.2.2.2.1,r16.2.2.2.2.1,r16.2.2.2.2.2.1,r16.2.2.2.2.2.2)
 else
 (loop Z7u (r14.1,(getAt (([]:List T0),false) r14.2.1.2.2.2.2.1 (toN x.2.1.2.1)).1,(((List.length (getAt (([]:List T0),false) r14.2.1.2.2.2.2.1 (toN x.2.1.2.1)).1):Nat):Int),(0:Int),r14.2.1,r14.2.2.1,x.1,r14.2.2.2.1,r14.2.2.2.2.1,r14.2.2.2.2.2.1,r14.2.2.2.2.2.2.1,r14.2.2.2.2.2.2.2)).bind fun r15 =>
 (Z39 (r15.2.2.1.1,r15.1,r15.2.1,r15.2.2.2.1,r15.2.2.2.2.1,r15.2.2.2.2.2.1,r15.2.2.2.2.2.2.1,r15.2.2.2.2.2.2.2)).bind fun r16 =>
 some (r16.1,r16.2.1,r16.2.2.1,r16.2.2.2.1,r16.2.2.2.2.1,r16.2.2.2.2.2.1,r16.2.2.2.2.2.2)
 else
 none
abbrev Zns:=Spec.shp Zgm Zk7 Z2q
def Zao:Ctx:={ tb:=mkTb T2.tbl,fx:=[(40,[],Znz),(121,[],Znp),(120,[],Zng),(124,[],Znn),(125,[],Zo1)],sum:=[(0,5,Yah Zeo Zdt (loop Z7u))],nt:=87,pin:=1,nr:=true,ys:=[] }
theorem Z2r:Sound Tryz.prog 68 (Zns) :=
 Sound.shp (C:=Zao) (fn:=Tryz.f68) (by kernel_rfl) (c:=bodyOf Tryz.f68) (by kernel_rfl) (by decide) (ctxOK mixed tbl_ok rfl ⟨Z36,Z2l,Z23,Z2h,Z3a,trivial⟩ trivial) (SumOK.of ⟨(Yaj (d:=.loop (loopOf 5 Tryz.f68)) (by kernel_rfl) Z7v),trivial⟩) (by kernel_rfl) Zgm Zk7 rfl (by decide) (by decide) rfl (by decide) rfl Z2q (fun x=>by kernel_rfl)
abbrev Zft:Shape:={ sl:=[(0,(.hole (.one (.slice y5))))],bl:=[],ts:=[(.one (.slice y5))],pin:=0 }
abbrev Zje:Shape:={ sl:=[(0,(.hole y15))],bl:=[],ts:=[y15],pin:=0 }
def Z14 (x:(List (T7))):Option (T18) :=
 some (true,x)
abbrev Zmz:=Spec.shp Zft Zje Z14
def Z9n:Ctx:={ tb:=mkTb T2.tbl,fx:=[],sum:=[],nt:=6,pin:=0,nr:=true,ys:=[] }
theorem Z15:Sound Tryz.prog 172 (Zmz) :=
 Sound.shp (C:=Z9n) (fn:=Tryz.f172) (by kernel_rfl) (c:=bodyOf Tryz.f172) (by kernel_rfl) (by decide) (ctxOK mixed tbl_ok rfl trivial trivial) (SumOK.of trivial) (by kernel_rfl) Zft Zje rfl (by decide) (by decide) rfl (by decide) rfl Z14 (fun x=>by kernel_rfl)
abbrev Zfs:Shape:={ sl:=[(0,(.hole y15)),(1,(.hole y5))],bl:=[],ts:=[y15,y5],pin:=0 }
abbrev Zjd:Shape:={ sl:=[(0,(.hole y15)),(1,(.hole .bool)),(2,(.hole (.int .i64)))],bl:=[],ts:=[y15,.bool,(.int .i64)],pin:=0 }
def Z12 (x:(T18 × T7)):Option (T18 × Bool × Int) :=
 (Z72 (x.1.2,x.2)).bind fun r16 =>
 (Z10 x.1).bind fun r17 =>
 bif (Bool.not r17) then
 some ((false,([]:List T7)),false,(1:Int))
 else
 bif (r16.2 == (1:Int)) then
 some ((false,([]:List T7)),false,(1:Int))
 else
 bif (Bool.not x.1.1) then
 (Z14 ([]:List T7)).bind fun r18 =>
 some (r18,true,(0:Int))
 else
 bif (r16.2 != (0:Int)) then
 some ((false,([]:List T7)),false,r16.2)
 else
 (Z14 r16.1).bind fun r18 =>
 some (r18,false,(0:Int))
abbrev Zmy:=Spec.shp Zfs Zjd Z12
def Z9m:Ctx:={ tb:=mkTb T2.tbl,fx:=[(171,[],Zpv),(117,[],Zmx),(172,[],Zmz)],sum:=[],nt:=39,pin:=0,nr:=true,ys:=[] }
theorem Z13:Sound Tryz.prog 126 (Zmy) :=
 Sound.shp (C:=Z9m) (fn:=Tryz.f126) (by kernel_rfl) (c:=bodyOf Tryz.f126) (by kernel_rfl) (by decide) (ctxOK mixed tbl_ok rfl ⟨Z73,Z11,Z15,trivial⟩ trivial) (SumOK.of trivial) (by kernel_rfl) Zfs Zjd rfl (by decide) (by decide) rfl (by decide) rfl Z12 (fun x=>by kernel_rfl)
abbrev Zgf:Shape:={ sl:=[(0,(.ptr 0 [])),(1,(.hole (.int .i64))),(2,(.hole (.int .i64))),(3,(.hole (.int .i64)))],bl:=bl_2,ts:=[(.int .i64),(.int .i64),(.int .i64),y39,y4,y18,y41,y19,y26,y27],pin:=0 }
abbrev Zk0:Shape:={ sl:=[],bl:=bl_2,ts:=ts_11,pin:=1 }
def Z2c (x:(Int × Int × Int × T47 × (Int × Int) × List (T17) × List T43 × List (T18) × List T29 × List (T20))):Option T57 :=
 (Z35 (x.1,(11:Int),x.2.1,(0:Int),x.2.2.1,x.2.2.2.1,x.2.2.2.2.1,x.2.2.2.2.2.1,x.2.2.2.2.2.2.1,x.2.2.2.2.2.2.2.1,x.2.2.2.2.2.2.2.2.1,x.2.2.2.2.2.2.2.2.2)).bind fun r17 =>
 (Z22 (x.1,r17.2.1,r17.2.2.1,r17.2.2.2.1,r17.2.2.2.2.1,r17.2.2.2.2.2.1,r17.2.2.2.2.2.2.1,r17.2.2.2.2.2.2.2)).bind fun r18 =>
 some (r18.1,r18.2.1,r18.2.2.1,r18.2.2.2.1,r18.2.2.2.2.1,r18.2.2.2.2.2.1,r18.2.2.2.2.2.2)
abbrev Znl:=Spec.shp Zgf Zk0 Z2c
def Zah:Ctx:={ tb:=mkTb T2.tbl,fx:=[(40,[],Znz),(120,[],Zng)],sum:=[],nt:=16,pin:=1,nr:=true,ys:=[] }
theorem Z2d:Sound Tryz.prog 127 (Znl) :=
 Sound.shp (C:=Zah) (fn:=Tryz.f127) (by kernel_rfl) (c:=bodyOf Tryz.f127) (by kernel_rfl) (by decide) (ctxOK mixed tbl_ok rfl ⟨Z36,Z23,trivial⟩ trivial) (SumOK.of trivial) (by kernel_rfl) Zgf Zk0 rfl (by decide) (by decide) rfl (by decide) rfl Z2c (fun x=>by kernel_rfl)
abbrev Zge:Shape:={ sl:=sl_26,bl:=bl_2,ts:=ts_14,pin:=0 }
abbrev Zjz:Shape:={ sl:=[],bl:=bl_2,ts:=ts_11,pin:=1 }
def Z2a (x:T60):Option T57 :=
 (Z35 (x.1.1,(10:Int),x.2.1.2.1,(0:Int),(Int.negSucc 0),x.2.2.1,x.2.2.2.1,x.2.2.2.2.1,x.2.2.2.2.2.1,x.2.2.2.2.2.2.1,x.2.2.2.2.2.2.2.1,x.2.2.2.2.2.2.2.2)).bind fun r14 =>
 bif (inb x.2.1.2.1 (List.length r14.2.2.2.2.2.1)) then
 (Z12 ((getAt (false,([]:List T7)) r14.2.2.2.2.2.1 (toN x.2.1.2.1)),x.1.1,(0:Int),r14.1)).bind fun r15 =>
 bif (inb x.2.1.2.1 (List.length r14.2.2.2.2.2.1)) then
 bif (Bool.not r15.2.1) then
 (Z39 (x.1.1,r14.2.1,r14.2.2.1,r14.2.2.2.1,r14.2.2.2.2.1,(List.set r14.2.2.2.2.2.1 (toN x.2.1.2.1) r15.1),r14.2.2.2.2.2.2.1,r14.2.2.2.2.2.2.2)).bind fun r16 =>
 some (r16.1,r16.2.1,r16.2.2.1,r16.2.2.2.1,r16.2.2.2.2.1,r16.2.2.2.2.2.1,r16.2.2.2.2.2.2)
 else
 (Z2c (x.1.1,x.2.1.2.1,r14.1,r14.2.1,r14.2.2.1,r14.2.2.2.1,r14.2.2.2.2.1,(List.set r14.2.2.2.2.2.1 (toN x.2.1.2.1) r15.1),r14.2.2.2.2.2.2.1,r14.2.2.2.2.2.2.2)).bind fun r16 =>
 some (r16.1,r16.2.1,r16.2.2.1,r16.2.2.2.1,r16.2.2.2.2.1,r16.2.2.2.2.2.1,r16.2.2.2.2.2.2)
 else
 none
 else
 none
abbrev Znk:=Spec.shp Zge Zjz Z2a
def Zag:Ctx:={ tb:=mkTb T2.tbl,fx:=[(40,[],Znz),(126,[],Zmy),(125,[],Zo1),(127,[],Znl)],sum:=[],nt:=56,pin:=1,nr:=true,ys:=[] }
theorem Z2b:Sound Tryz.prog 69 (Znk) :=
 Sound.shp (C:=Zag) (fn:=Tryz.f69) (by kernel_rfl) (c:=bodyOf Tryz.f69) (by kernel_rfl) (by decide) (ctxOK mixed tbl_ok rfl ⟨Z36,Z13,Z3a,Z2d,trivial⟩ trivial) (SumOK.of trivial) (by kernel_rfl) Zge Zjz rfl (by decide) (by decide) rfl (by decide) rfl Z2a (fun x=>by kernel_rfl)
abbrev Zfq:Shape:={ sl:=[(0,(.hole y15))],bl:=[],ts:=[y15],pin:=0 }
abbrev Zjb:Shape:={ sl:=[(0,(.hole y15)),(1,(.hole y5)),(2,(.hole .bool)),(3,(.hole (.int .i64)))],bl:=[],ts:=[y15,y5,.bool,(.int .i64)],pin:=0 }
def Zy (x:(T18)):Option (T18 × T7 × Bool × Int) :=
 (Z10 x).bind fun r15 =>
 bif (Bool.not r15) then
 some ((false,([]:List T7)),((0:Int),(0:Int),(0:Int)),false,(1:Int))
 else
 bif (Bool.not x.1) then
 some ((false,([]:List T7)),((0:Int),(0:Int),(0:Int)),false,(6:Int))
 else
 bif ((((List.length x.2):Nat):Int) == (0:Int)) then
 some ((false,([]:List T7)),((0:Int),(0:Int),(0:Int)),false,(0:Int))
 else
 bif (sub3 (1:Int) (((List.length x.2):Nat):Int) (List.length x.2)) then
 (Z14 (cut x.2 (toN (1:Int)) ((toN (((List.length x.2):Nat):Int)) - (toN (1:Int))))).bind fun r16 =>
 bif (inb (0:Int) (List.length x.2)) then
 some (r16,(getAt ((0:Int),(0:Int),(0:Int)) x.2 (toN (0:Int))),true,(0:Int))
 else
 none
 else
 none
abbrev Zmw:=Spec.shp Zfq Zjb Zy
def Z9k:Ctx:={ tb:=mkTb T2.tbl,fx:=[(117,[],Zmx),(172,[],Zmz)],sum:=[],nt:=34,pin:=0,nr:=true,ys:=[] }
theorem Zz:Sound Tryz.prog 128 (Zmw) :=
 Sound.shp (C:=Z9k) (fn:=Tryz.f128) (by kernel_rfl) (c:=bodyOf Tryz.f128) (by kernel_rfl) (by decide) (ctxOK mixed tbl_ok rfl ⟨Z11,Z15,trivial⟩ trivial) (SumOK.of trivial) (by kernel_rfl) Zfq Zjb rfl (by decide) (by decide) rfl (by decide) rfl Zy (fun x=>by kernel_rfl)
abbrev Zgu:Shape:={ sl:=sl_26,bl:=bl_2,ts:=ts_14,pin:=0 }
abbrev Zkf:Shape:={ sl:=[],bl:=bl_2,ts:=ts_11,pin:=1 }
def Z37 (x:T60):Option T57 :=
 bif (inb x.2.1.2.1 (List.length x.2.2.2.2.2.2.1)) then
 (Zy (getAt (false,([]:List T7)) x.2.2.2.2.2.2.1 (toN x.2.1.2.1))).bind fun r14 =>
 bif (r14.2.2.2 != (0:Int)) then
 some (x.2.2.1,(x.2.2.2.1.1,(3:Int)),x.2.2.2.2.1,x.2.2.2.2.2.1,x.2.2.2.2.2.2.1,x.2.2.2.2.2.2.2.1,x.2.2.2.2.2.2.2.2)
 else
 bif (inb x.2.1.2.1 (List.length x.2.2.2.2.2.2.1)) then
 (Z35 (x.1.1,(12:Int),x.2.1.2.1,(0:Int),(Int.negSucc 0),x.2.2.1,x.2.2.2.1,x.2.2.2.2.1,x.2.2.2.2.2.1,(List.set x.2.2.2.2.2.2.1 (toN x.2.1.2.1) r14.1),x.2.2.2.2.2.2.2.1,x.2.2.2.2.2.2.2.2)).bind fun r15 =>
 (Z22 (x.1.1,r15.2.1,r15.2.2.1,r15.2.2.2.1,r15.2.2.2.2.1,r15.2.2.2.2.2.1,r15.2.2.2.2.2.2.1,r15.2.2.2.2.2.2.2)).bind fun r16 =>
 bif r14.2.2.1 then
 (Z2c (r14.2.1.1,x.2.1.2.1,r14.2.1.2.2,r16.1,r16.2.1,r16.2.2.1,r16.2.2.2.1,r16.2.2.2.2.1,r16.2.2.2.2.2.1,r16.2.2.2.2.2.2)).bind fun r17 =>
 some (r17.1,r17.2.1,r17.2.2.1,r17.2.2.2.1,r17.2.2.2.2.1,r17.2.2.2.2.2.1,r17.2.2.2.2.2.2)
 else
 some (r16.1,r16.2.1,r16.2.2.1,r16.2.2.2.1,r16.2.2.2.2.1,r16.2.2.2.2.2.1,r16.2.2.2.2.2.2)
 else
 none
 else
 none
abbrev Zo0:=Spec.shp Zgu Zkf Z37
def Zay:Ctx:={ tb:=mkTb T2.tbl,fx:=[(128,[],Zmw),(40,[],Znz),(120,[],Zng),(127,[],Znl)],sum:=[],nt:=59,pin:=1,nr:=true,ys:=[] }
theorem Z38:Sound Tryz.prog 70 (Zo0) :=
 Sound.shp (C:=Zay) (fn:=Tryz.f70) (by kernel_rfl) (c:=bodyOf Tryz.f70) (by kernel_rfl) (by decide) (ctxOK mixed tbl_ok rfl ⟨Zz,Z36,Z23,Z2d,trivial⟩ trivial) (SumOK.of trivial) (by kernel_rfl) Zgu Zkf rfl (by decide) (by decide) rfl (by decide) rfl Z37 (fun x=>by kernel_rfl)
abbrev Zh1:Shape:={ sl:=sl_30,bl:=[],ts:=[y23,y5],pin:=0 }
abbrev Zkm:Shape:={ sl:=sl_31,bl:=[],ts:=ts_15,pin:=0 }
def Z3l (x:T30):Option T34 :=
 some (((1:Int),x.2.1,([]:List T7)),(0:Int),(0:Int))
abbrev Zo7:=Spec.shp Zh1 Zkm Z3l
def Zb5:Ctx:={ tb:=mkTb T2.tbl,fx:=[],sum:=[],nt:=10,pin:=0,nr:=true,ys:=[] }
theorem Z3m:Sound Tryz.prog 173 (Zo7) :=
 Sound.shp (C:=Zb5) (fn:=Tryz.f173) (by kernel_rfl) (c:=bodyOf Tryz.f173) (by kernel_rfl) (by decide) (ctxOK mixed tbl_ok rfl trivial trivial) (SumOK.of trivial) (by kernel_rfl) Zh1 Zkm rfl (by decide) (by decide) rfl (by decide) rfl Z3l (fun x=>by kernel_rfl)
abbrev Zh3:Shape:={ sl:=sl_30,bl:=[],ts:=[y23,y5],pin:=0 }
abbrev Zko:Shape:={ sl:=sl_31,bl:=[],ts:=ts_15,pin:=0 }
def Z3p (x:T30):Option T34 :=
 bif (x.1.2.1 == x.2.1) then
 some (((0:Int),(0:Int),([]:List T7)),(0:Int),(6:Int))
 else
 (Z72 (x.1.2.2,x.2)).bind fun r18 =>
 bif (r18.2 != (0:Int)) then
 some (((0:Int),(0:Int),([]:List T7)),(0:Int),r18.2)
 else
 some ((x.1.1,x.1.2.1,r18.1),(1:Int),(0:Int))
abbrev Zo9:=Spec.shp Zh3 Zko Z3p
def Zb7:Ctx:={ tb:=mkTb T2.tbl,fx:=[(171,[],Zpv)],sum:=[],nt:=29,pin:=0,nr:=true,ys:=[] }
theorem Z3q:Sound Tryz.prog 174 (Zo9) :=
 Sound.shp (C:=Zb7) (fn:=Tryz.f174) (by kernel_rfl) (c:=bodyOf Tryz.f174) (by kernel_rfl) (by decide) (ctxOK mixed tbl_ok rfl ⟨Z73,trivial⟩ trivial) (SumOK.of trivial) (by kernel_rfl) Zh3 Zko rfl (by decide) (by decide) rfl (by decide) rfl Z3p (fun x=>by kernel_rfl)
abbrev Zh2:Shape:={ sl:=sl_30,bl:=[],ts:=[y23,y5],pin:=0 }
abbrev Zkn:Shape:={ sl:=sl_31,bl:=[],ts:=ts_15,pin:=0 }
def Z3n (x:T30):Option T34 :=
 some (x.1,(2:Int),(0:Int))
abbrev Zo8:=Spec.shp Zh2 Zkn Z3n
def Zb6:Ctx:={ tb:=mkTb T2.tbl,fx:=[],sum:=[],nt:=8,pin:=0,nr:=true,ys:=[] }
theorem Z3o:Sound Tryz.prog 175 (Zo8) :=
 Sound.shp (C:=Zb6) (fn:=Tryz.f175) (by kernel_rfl) (c:=bodyOf Tryz.f175) (by kernel_rfl) (by decide) (ctxOK mixed tbl_ok rfl trivial trivial) (SumOK.of trivial) (by kernel_rfl) Zh2 Zkn rfl (by decide) (by decide) rfl (by decide) rfl Z3n (fun x=>by kernel_rfl)
abbrev Zgy:Shape:={ sl:=sl_30,bl:=[],ts:=[y23,y5],pin:=0 }
abbrev Zkj:Shape:={ sl:=sl_31,bl:=[],ts:=ts_15,pin:=0 }
def Z3f (x:T30):Option T34 :=
 (Z3j x.1).bind fun r16 =>
 bif (Bool.not r16) then
 some (((0:Int),(0:Int),([]:List T7)),(0:Int),(1:Int))
 else
 bif (decide (x.2.1 < (0:Int))) then
 some (((0:Int),(0:Int),([]:List T7)),(0:Int),(1:Int))
 else
 bif (decide (x.2.2.1 < (0:Int))) then
 some (((0:Int),(0:Int),([]:List T7)),(0:Int),(1:Int))
 else
 bif (decide (x.2.2.2 < (0:Int))) then
 some (((0:Int),(0:Int),([]:List T7)),(0:Int),(1:Int))
 else
 bif (x.1.1 == (((0:Nat):Nat):Int)) then
 (Z3l (x.1,x.2)).bind fun r17 =>
 some (r17.1,r17.2.1,r17.2.2)
 else
 bif (x.1.1 == ((((0:Nat)+(1:Nat)):Nat):Int)) then
 (Z3p (x.1,x.2)).bind fun r17 =>
 some (r17.1,r17.2.1,r17.2.2)
 else
 bif (x.1.1 == (((((0:Nat)+(1:Nat))+(1:Nat)):Nat):Int)) then
 (Z3n (x.1,x.2)).bind fun r17 =>
 some (r17.1,r17.2.1,r17.2.2)
 else
 none
abbrev Zo4:=Spec.shp Zgy Zkj Z3f
def Zb2:Ctx:={ tb:=mkTb T2.tbl,fx:=[(118,[],Zo6),(173,[],Zo7),(174,[],Zo9),(175,[],Zo8)],sum:=[],nt:=42,pin:=0,nr:=true,ys:=[] }
theorem Z3g:Sound Tryz.prog 129 (Zo4) :=
 Sound.shp (C:=Zb2) (fn:=Tryz.f129) (by kernel_rfl) (c:=bodyOf Tryz.f129) (by kernel_rfl) (by decide) (ctxOK mixed tbl_ok rfl ⟨Z3k,Z3m,Z3q,Z3o,trivial⟩ trivial) (SumOK.of trivial) (by kernel_rfl) Zgy Zkj rfl (by decide) (by decide) rfl (by decide) rfl Z3f (fun x=>by kernel_rfl)
abbrev Zgs:Shape:={ sl:=sl_14,bl:=bl_2,ts:=[(.int .i64),(.int .i64),y39,y4,y18,y41,y19,y26,y27],pin:=0 }
abbrev Zkd:Shape:={ sl:=[],bl:=bl_2,ts:=ts_11,pin:=1 }
def Z33 (x:(Int × Int × T47 × (Int × Int) × List (T17) × List T43 × List (T18) × List T29 × List (T20))):Option T57 :=
 (Z26 (x.1,x.2.2.1,x.2.2.2.1,x.2.2.2.2.1,x.2.2.2.2.2.1,x.2.2.2.2.2.2.1,x.2.2.2.2.2.2.2.1,x.2.2.2.2.2.2.2.2)).bind fun r17 =>
 (Z35 (x.1,(15:Int),r17.1.2.1,(0:Int),x.2.1,r17.2.1,r17.2.2.1,r17.2.2.2.1,r17.2.2.2.2.1,r17.2.2.2.2.2.1,r17.2.2.2.2.2.2.1,r17.2.2.2.2.2.2.2)).bind fun r18 =>
 (Z24 (x.1,r17.1.2.2,r18.2.1,r18.2.2.1,r18.2.2.2.1,r18.2.2.2.2.1,r18.2.2.2.2.2.1,r18.2.2.2.2.2.2.1,r18.2.2.2.2.2.2.2)).bind fun r19 =>
 some (r19.1,r19.2.1,r19.2.2.1,r19.2.2.2.1,r19.2.2.2.2.1,r19.2.2.2.2.2.1,r19.2.2.2.2.2.2)
abbrev Zny:=Spec.shp Zgs Zkd Z33
def Zaw:Ctx:={ tb:=mkTb T2.tbl,fx:=[(78,[],Zni),(40,[],Znz),(41,[],Znh)],sum:=[],nt:=21,pin:=1,nr:=true,ys:=[] }
theorem Z34:Sound Tryz.prog 130 (Zny) :=
 Sound.shp (C:=Zaw) (fn:=Tryz.f130) (by kernel_rfl) (c:=bodyOf Tryz.f130) (by kernel_rfl) (by decide) (ctxOK mixed tbl_ok rfl ⟨Z27,Z36,Z25,trivial⟩ trivial) (SumOK.of trivial) (by kernel_rfl) Zgs Zkd rfl (by decide) (by decide) rfl (by decide) rfl Z33 (fun x=>by kernel_rfl)
abbrev Zg7:Shape:={ sl:=sl_26,bl:=bl_2,ts:=ts_14,pin:=0 }
abbrev Zjs:Shape:={ sl:=[],bl:=bl_2,ts:=ts_11,pin:=1 }
def Z1w (x:T60):Option T57 :=
 (Z35 (x.1.1,(13:Int),x.2.1.2.1,(0:Int),(Int.negSucc 0),x.2.2.1,x.2.2.2.1,x.2.2.2.2.1,x.2.2.2.2.2.1,x.2.2.2.2.2.2.1,x.2.2.2.2.2.2.2.1,x.2.2.2.2.2.2.2.2)).bind fun r14 =>
 bif (inb x.2.1.2.1 (List.length r14.2.2.2.2.2.2.1)) then
 (Z3f ((getAt ((0:Int),(0:Int),([]:List T7)) r14.2.2.2.2.2.2.1 (toN x.2.1.2.1)),x.1.1,(0:Int),r14.1)).bind fun r15 =>
 bif (r15.2.2 != (0:Int)) then
 (Z39 (x.1.1,r14.2.1,r14.2.2.1,r14.2.2.2.1,r14.2.2.2.2.1,r14.2.2.2.2.2.1,r14.2.2.2.2.2.2.1,r14.2.2.2.2.2.2.2)).bind fun r16 =>
 some (r16.1,r16.2.1,r16.2.2.1,r16.2.2.2.1,r16.2.2.2.2.1,r16.2.2.2.2.2.1,r16.2.2.2.2.2.2)
 else
 bif (inb x.2.1.2.1 (List.length r14.2.2.2.2.2.2.1)) then
 bif (r15.2.1 == (0:Int)) then
 (Z22 (x.1.1,r14.2.1,r14.2.2.1,r14.2.2.2.1,r14.2.2.2.2.1,r14.2.2.2.2.2.1,(List.set r14.2.2.2.2.2.2.1 (toN x.2.1.2.1) r15.1),r14.2.2.2.2.2.2.2)).bind fun r16 =>
 some (r16.1,r16.2.1,r16.2.2.1,r16.2.2.2.1,r16.2.2.2.2.1,r16.2.2.2.2.2.1,r16.2.2.2.2.2.2)
 else
 bif (r15.2.1 == (1:Int)) then
 (Z39 (x.1.1,r14.2.1,r14.2.2.1,r14.2.2.2.1,r14.2.2.2.2.1,r14.2.2.2.2.2.1,(List.set r14.2.2.2.2.2.2.1 (toN x.2.1.2.1) r15.1),r14.2.2.2.2.2.2.2)).bind fun r16 =>
 some (r16.1,r16.2.1,r16.2.2.1,r16.2.2.2.1,r16.2.2.2.2.1,r16.2.2.2.2.2.1,r16.2.2.2.2.2.2)
 else
 (Z33 (x.1.1,r14.1,r14.2.1,r14.2.2.1,r14.2.2.2.1,r14.2.2.2.2.1,r14.2.2.2.2.2.1,(List.set r14.2.2.2.2.2.2.1 (toN x.2.1.2.1) r15.1),r14.2.2.2.2.2.2.2)).bind fun r16 =>
 some (r16.1,r16.2.1,r16.2.2.1,r16.2.2.2.1,r16.2.2.2.2.1,r16.2.2.2.2.2.1,r16.2.2.2.2.2.2)
 else
 none
 else
 none
abbrev Znd:=Spec.shp Zg7 Zjs Z1w
def Za7:Ctx:={ tb:=mkTb T2.tbl,fx:=[(40,[],Znz),(129,[],Zo4),(125,[],Zo1),(120,[],Zng),(130,[],Zny)],sum:=[],nt:=67,pin:=1,nr:=true,ys:=[] }
theorem Z1x:Sound Tryz.prog 71 (Znd) :=
 Sound.shp (C:=Za7) (fn:=Tryz.f71) (by kernel_rfl) (c:=bodyOf Tryz.f71) (by kernel_rfl) (by decide) (ctxOK mixed tbl_ok rfl ⟨Z36,Z3g,Z3a,Z23,Z34,trivial⟩ trivial) (SumOK.of trivial) (by kernel_rfl) Zg7 Zjs rfl (by decide) (by decide) rfl (by decide) rfl Z1w (fun x=>by kernel_rfl)
abbrev Zgz:Shape:={ sl:=[(0,(.hole y23)),(1,(.hole (.int .i64)))],bl:=[],ts:=[y23,(.int .i64)],pin:=0 }
abbrev Zkk:Shape:={ sl:=[(0,(.hole y23)),(1,(.hole (.slice y5))),(2,(.hole (.int .i64)))],bl:=[],ts:=[y23,(.slice y5),(.int .i64)],pin:=0 }
def Z3h (x:((Int × T13) × Int)):Option ((Int × T13) × List (T7) × Int) :=
 (Z3j x.1).bind fun r15 =>
 bif (Bool.not r15) then
 some (((0:Int),(0:Int),([]:List T7)),([]:List T7),(1:Int))
 else
 bif (decide (x.2 < (0:Int))) then
 some (((0:Int),(0:Int),([]:List T7)),([]:List T7),(1:Int))
 else
 bif (x.1.1 != (1:Int)) then
 some (((0:Int),(0:Int),([]:List T7)),([]:List T7),(6:Int))
 else
 bif (x.1.2.1 != x.2) then
 some (((0:Int),(0:Int),([]:List T7)),([]:List T7),(6:Int))
 else
 some (((2:Int),(0:Int),([]:List T7)),x.1.2.2,(0:Int))
abbrev Zo5:=Spec.shp Zgz Zkk Z3h
def Zb3:Ctx:={ tb:=mkTb T2.tbl,fx:=[(118,[],Zo6)],sum:=[],nt:=30,pin:=0,nr:=true,ys:=[] }
theorem Z3i:Sound Tryz.prog 131 (Zo5) :=
 Sound.shp (C:=Zb3) (fn:=Tryz.f131) (by kernel_rfl) (c:=bodyOf Tryz.f131) (by kernel_rfl) (by decide) (ctxOK mixed tbl_ok rfl ⟨Z3k,trivial⟩ trivial) (SumOK.of trivial) (by kernel_rfl) Zgz Zkk rfl (by decide) (by decide) rfl (by decide) rfl Z3h (fun x=>by kernel_rfl)
abbrev Zen:Shape:={ sl:=[(0,(.ptr 0 [])),(52,(.hole (.slice y5))),(53,(.hole (.int .i64))),(54,(.hole (.int .i64)))],bl:=bl_2,ts:=[(.slice y5),(.int .i64),(.int .i64),y39,y4,y18,y41,y19,y26,y27],pin:=1 }
abbrev Zds:List (ETag × Shape):=[(.exit 0,{ sl:=[],bl:=bl_2,ts:=ts_11,pin:=1 })]
def Z7s (x:(List (T7) × Int × Int × T47 × (Int × Int) × List (T17) × List T43 × List (T18) × List T29 × List (T20))):Option ((List (T7) × Int × Int × T47 × (Int × Int) × List (T17) × List T43 × List (T18) × List T29 × List (T20)) ⊕ (T57)) :=
 bif (decide (x.2.2.1 < x.2.1)) then
 bif (inb x.2.2.1 (List.length x.1)) then
 (Z33 ((getAt ((0:Int),(0:Int),(0:Int)) x.1 (toN x.2.2.1)).1,(getAt ((0:Int),(0:Int),(0:Int)) x.1 (toN x.2.2.1)).2.2,x.2.2.2.1,x.2.2.2.2.1,x.2.2.2.2.2.1,x.2.2.2.2.2.2.1,x.2.2.2.2.2.2.2.1,x.2.2.2.2.2.2.2.2.1,x.2.2.2.2.2.2.2.2.2)).bind fun r18 =>
 some (.inl (x.1,x.2.1,(IntKind.wrap .i64 (x.2.2.1+(1:Int))),r18.1,r18.2.1,r18.2.2.1,r18.2.2.2.1,r18.2.2.2.2.1,r18.2.2.2.2.2.1,r18.2.2.2.2.2.2))
 else
 none
 else
 some (.inr (x.2.2.2.1,x.2.2.2.2.1,x.2.2.2.2.2.1,x.2.2.2.2.2.2.1,x.2.2.2.2.2.2.2.1,x.2.2.2.2.2.2.2.2.1,x.2.2.2.2.2.2.2.2.2))
def Zab:Ctx:={ tb:=mkTb T2.tbl,fx:=[(131,[],Zo5),(40,[],Znz),(120,[],Zng),(130,[],Zny)],sum:=[],nt:=65,pin:=1,nr:=true,ys:=[] }
theorem Z7t:CSound Tryz.prog ⟨65,1,true⟩ (.loop (loopOf 9 Tryz.f72)) (Yah Zen Zds (loop Z7s)) :=
 Y81 (C:=Zab) (ctxOK mixed tbl_ok rfl ⟨Z3i,Z36,Z23,Z34,trivial⟩ trivial) (SumOK.of trivial) Zen Zds rfl rfl Z7s (fun x=>by kernel_rfl)
abbrev Zg9:Shape:={ sl:=sl_26,bl:=bl_2,ts:=ts_14,pin:=0 }
abbrev Zju:Shape:={ sl:=[],bl:=bl_2,ts:=ts_11,pin:=1 }
def Z20 (x:T60):Option T57 :=
 bif (inb x.2.1.2.1 (List.length x.2.2.2.2.2.2.2.1)) then
 (Z3h ((getAt ((0:Int),(0:Int),([]:List T7)) x.2.2.2.2.2.2.2.1 (toN x.2.1.2.1)),x.1.1)).bind fun r14 =>
 bif (r14.2.2 != (0:Int)) then
 some (x.2.2.1,(x.2.2.2.1.1,(3:Int)),x.2.2.2.2.1,x.2.2.2.2.2.1,x.2.2.2.2.2.2.1,x.2.2.2.2.2.2.2.1,x.2.2.2.2.2.2.2.2)
 else
 bif (inb x.2.1.2.1 (List.length x.2.2.2.2.2.2.2.1)) then
 (Z35 (x.1.1,(14:Int),x.2.1.2.1,(0:Int),(Int.negSucc 0),x.2.2.1,x.2.2.2.1,x.2.2.2.2.1,x.2.2.2.2.2.1,x.2.2.2.2.2.2.1,(List.set x.2.2.2.2.2.2.2.1 (toN x.2.1.2.1) r14.1),x.2.2.2.2.2.2.2.2)).bind fun r15 =>
 (Z22 (x.1.1,r15.2.1,r15.2.2.1,r15.2.2.2.1,r15.2.2.2.2.1,r15.2.2.2.2.2.1,r15.2.2.2.2.2.2.1,r15.2.2.2.2.2.2.2)).bind fun r16 =>
 (loop Z7s (r14.2.1,(((List.length r14.2.1):Nat):Int),(0:Int),r16.1,r16.2.1,r16.2.2.1,r16.2.2.2.1,r16.2.2.2.2.1,r16.2.2.2.2.2.1,r16.2.2.2.2.2.2)).bind fun r17 =>
 some (r17.1,r17.2.1,r17.2.2.1,r17.2.2.2.1,r17.2.2.2.2.1,r17.2.2.2.2.2.1,r17.2.2.2.2.2.2)
 else
 none
 else
 none
abbrev Znf:=Spec.shp Zg9 Zju Z20
def Zaa:Ctx:={ tb:=mkTb T2.tbl,fx:=[(131,[],Zo5),(40,[],Znz),(120,[],Zng),(130,[],Zny)],sum:=[(0,9,Yah Zen Zds (loop Z7s))],nt:=65,pin:=1,nr:=true,ys:=[] }
theorem Z21:Sound Tryz.prog 72 (Znf) :=
 Sound.shp (C:=Zaa) (fn:=Tryz.f72) (by kernel_rfl) (c:=bodyOf Tryz.f72) (by kernel_rfl) (by decide) (ctxOK mixed tbl_ok rfl ⟨Z3i,Z36,Z23,Z34,trivial⟩ trivial) (SumOK.of ⟨(Yaj (d:=.loop (loopOf 9 Tryz.f72)) (by kernel_rfl) Z7t),trivial⟩) (by kernel_rfl) Zg9 Zju rfl (by decide) (by decide) rfl (by decide) rfl Z20 (fun x=>by kernel_rfl)
abbrev Zg6:Shape:={ sl:=sl_26,bl:=bl_2,ts:=ts_14,pin:=0 }
abbrev Zjr:Shape:={ sl:=[],bl:=bl_2,ts:=ts_11,pin:=1 }
def Z1u (x:T60):Option T57 :=
 bif ((((List.length x.2.2.2.2.1):Nat):Int) == (8:Int)) then
 some (x.2.2.1,(x.2.2.2.1.1,(4:Int)),x.2.2.2.2.1,x.2.2.2.2.2.1,x.2.2.2.2.2.2.1,x.2.2.2.2.2.2.2.1,x.2.2.2.2.2.2.2.2)
 else
 (Z35 (x.1.1,(1:Int),(((List.length x.2.2.2.2.1):Nat):Int),(0:Int),(Int.negSucc 0),x.2.2.1,x.2.2.2.1,x.2.2.2.2.1,x.2.2.2.2.2.1,x.2.2.2.2.2.2.1,x.2.2.2.2.2.2.2.1,x.2.2.2.2.2.2.2.2)).bind fun r14 =>
 (Z35 ((((List.length x.2.2.2.2.1):Nat):Int),(0:Int),(0:Int),(0:Int),r14.1,r14.2.1,r14.2.2.1,r14.2.2.2.1,r14.2.2.2.2.1,r14.2.2.2.2.2.1,r14.2.2.2.2.2.2.1,r14.2.2.2.2.2.2.2)).bind fun r15 =>
 bif (fits ((List.length r15.2.2.2.1)+(List.length ((x.2.1.2.1,(0:Int),(0:Int),false) :: ([]:List T17))))) then
 (Z24 ((((List.length x.2.2.2.2.1):Nat):Int),(0:Int),r15.2.1,r15.2.2.1,(r15.2.2.2.1++((x.2.1.2.1,(0:Int),(0:Int),false) :: ([]:List T17))),r15.2.2.2.2.1,r15.2.2.2.2.2.1,r15.2.2.2.2.2.2.1,r15.2.2.2.2.2.2.2)).bind fun r16 =>
 (Z22 (x.1.1,r16.1,r16.2.1,r16.2.2.1,r16.2.2.2.1,r16.2.2.2.2.1,r16.2.2.2.2.2.1,r16.2.2.2.2.2.2)).bind fun r17 =>
 some (r17.1,r17.2.1,r17.2.2.1,r17.2.2.2.1,r17.2.2.2.2.1,r17.2.2.2.2.2.1,r17.2.2.2.2.2.2)
 else
 none
abbrev Znc:=Spec.shp Zg6 Zjr Z1u
def Za6:Ctx:={ tb:=mkTb T2.tbl,fx:=[(40,[],Znz),(41,[],Znh),(120,[],Zng)],sum:=[],nt:=50,pin:=1,nr:=true,ys:=[] }
theorem Z1v:Sound Tryz.prog 73 (Znc) :=
 Sound.shp (C:=Za6) (fn:=Tryz.f73) (by kernel_rfl) (c:=bodyOf Tryz.f73) (by kernel_rfl) (by decide) (ctxOK mixed tbl_ok rfl ⟨Z36,Z25,Z23,trivial⟩ trivial) (SumOK.of trivial) (by kernel_rfl) Zg6 Zjr rfl (by decide) (by decide) rfl (by decide) rfl Z1u (fun x=>by kernel_rfl)
abbrev Zgk:Shape:={ sl:=sl_26,bl:=bl_2,ts:=ts_14,pin:=0 }
abbrev Zk5:Shape:={ sl:=[],bl:=bl_2,ts:=ts_11,pin:=1 }
def Z2m (x:T60):Option T57 :=
 (Z35 (x.1.1,(16:Int),x.2.1.2.1,(0:Int),(Int.negSucc 0),x.2.2.1,x.2.2.2.1,x.2.2.2.2.1,x.2.2.2.2.2.1,x.2.2.2.2.2.2.1,x.2.2.2.2.2.2.2.1,x.2.2.2.2.2.2.2.2)).bind fun r14 =>
 (Z22 (x.1.1,r14.2.1,r14.2.2.1,r14.2.2.2.1,r14.2.2.2.2.1,r14.2.2.2.2.2.1,r14.2.2.2.2.2.2.1,r14.2.2.2.2.2.2.2)).bind fun r15 =>
 some (r15.1,r15.2.1,r15.2.2.1,r15.2.2.2.1,r15.2.2.2.2.1,r15.2.2.2.2.2.1,r15.2.2.2.2.2.2)
abbrev Znq:=Spec.shp Zgk Zk5 Z2m
def Zam:Ctx:={ tb:=mkTb T2.tbl,fx:=[(40,[],Znz),(120,[],Zng)],sum:=[],nt:=16,pin:=1,nr:=true,ys:=[] }
theorem Z2n:Sound Tryz.prog 74 (Znq) :=
 Sound.shp (C:=Zam) (fn:=Tryz.f74) (by kernel_rfl) (c:=bodyOf Tryz.f74) (by kernel_rfl) (by decide) (ctxOK mixed tbl_ok rfl ⟨Z36,Z23,trivial⟩ trivial) (SumOK.of trivial) (by kernel_rfl) Zgk Zk5 rfl (by decide) (by decide) rfl (by decide) rfl Z2m (fun x=>by kernel_rfl)
abbrev Zgw:Shape:={ sl:=sl_26,bl:=bl_2,ts:=ts_14,pin:=0 }
abbrev Zkh:Shape:={ sl:=[],bl:=bl_2,ts:=ts_11,pin:=1 }
def Z3b (x:T60):Option T57 :=
 (Z35 (x.1.1,(17:Int),x.2.1.2.1,(0:Int),(Int.negSucc 0),x.2.2.1,x.2.2.2.1,x.2.2.2.2.1,x.2.2.2.2.2.1,x.2.2.2.2.2.2.1,x.2.2.2.2.2.2.2.1,x.2.2.2.2.2.2.2.2)).bind fun r14 =>
 (Z22 (x.1.1,r14.2.1,r14.2.2.1,r14.2.2.2.1,r14.2.2.2.2.1,r14.2.2.2.2.2.1,r14.2.2.2.2.2.2.1,r14.2.2.2.2.2.2.2)).bind fun r15 =>
 some (r15.1,r15.2.1,r15.2.2.1,r15.2.2.2.1,r15.2.2.2.2.1,r15.2.2.2.2.2.1,r15.2.2.2.2.2.2)
abbrev Zo2:=Spec.shp Zgw Zkh Z3b
def Zb0:Ctx:={ tb:=mkTb T2.tbl,fx:=[(40,[],Znz),(120,[],Zng)],sum:=[],nt:=16,pin:=1,nr:=true,ys:=[] }
theorem Z3c:Sound Tryz.prog 75 (Zo2) :=
 Sound.shp (C:=Zb0) (fn:=Tryz.f75) (by kernel_rfl) (c:=bodyOf Tryz.f75) (by kernel_rfl) (by decide) (ctxOK mixed tbl_ok rfl ⟨Z36,Z23,trivial⟩ trivial) (SumOK.of trivial) (by kernel_rfl) Zgw Zkh rfl (by decide) (by decide) rfl (by decide) rfl Z3b (fun x=>by kernel_rfl)
abbrev Zgd:Shape:={ sl:=sl_26,bl:=bl_2,ts:=ts_14,pin:=0 }
abbrev Zjy:Shape:={ sl:=[],bl:=bl_2,ts:=ts_11,pin:=1 }
def Z28 (x:T60):Option T57 :=
 (Z24 (x.1.1,x.2.1.2.1,x.2.2.1,x.2.2.2.1,x.2.2.2.2.1,x.2.2.2.2.2.1,x.2.2.2.2.2.2.1,x.2.2.2.2.2.2.2.1,x.2.2.2.2.2.2.2.2)).bind fun r14 =>
 some (r14.1,r14.2.1,r14.2.2.1,r14.2.2.2.1,r14.2.2.2.2.1,r14.2.2.2.2.2.1,r14.2.2.2.2.2.2)
abbrev Znj:=Spec.shp Zgd Zjy Z28
def Zaf:Ctx:={ tb:=mkTb T2.tbl,fx:=[(41,[],Znh)],sum:=[],nt:=12,pin:=1,nr:=true,ys:=[] }
theorem Z29:Sound Tryz.prog 76 (Znj) :=
 Sound.shp (C:=Zaf) (fn:=Tryz.f76) (by kernel_rfl) (c:=bodyOf Tryz.f76) (by kernel_rfl) (by decide) (ctxOK mixed tbl_ok rfl ⟨Z25,trivial⟩ trivial) (SumOK.of trivial) (by kernel_rfl) Zgd Zjy rfl (by decide) (by decide) rfl (by decide) rfl Z28 (fun x=>by kernel_rfl)
abbrev Zgi:Shape:={ sl:=sl_26,bl:=bl_2,ts:=ts_14,pin:=0 }
abbrev Zk3:Shape:={ sl:=[],bl:=bl_2,ts:=ts_11,pin:=1 }
def Z2i (x:T60):Option T57 :=
 bif (inb x.1.1 (List.length x.2.2.2.2.1)) then
 bif (getAt ((0:Int),(0:Int),(0:Int),false) x.2.2.2.2.1 (toN x.1.1)).2.2.2 then
 (Z28 (x.1,x.2.1,x.2.2.1,x.2.2.2.1,x.2.2.2.2.1,x.2.2.2.2.2.1,x.2.2.2.2.2.2.1,x.2.2.2.2.2.2.2.1,x.2.2.2.2.2.2.2.2)).bind fun r14 =>
 some (r14.1,r14.2.1,r14.2.2.1,r14.2.2.2.1,r14.2.2.2.2.1,r14.2.2.2.2.2.1,r14.2.2.2.2.2.2)
 else
 (Z22 (x.1.1,x.2.2.1,x.2.2.2.1,x.2.2.2.2.1,x.2.2.2.2.2.1,x.2.2.2.2.2.2.1,x.2.2.2.2.2.2.2.1,x.2.2.2.2.2.2.2.2)).bind fun r14 =>
 some (r14.1,r14.2.1,r14.2.2.1,r14.2.2.2.1,r14.2.2.2.2.1,r14.2.2.2.2.2.1,r14.2.2.2.2.2.2)
 else
 none
abbrev Zno:=Spec.shp Zgi Zk3 Z2i
def Zak:Ctx:={ tb:=mkTb T2.tbl,fx:=[(76,[],Znj),(120,[],Zng)],sum:=[],nt:=24,pin:=1,nr:=true,ys:=[] }
theorem Z2j:Sound Tryz.prog 77 (Zno) :=
 Sound.shp (C:=Zak) (fn:=Tryz.f77) (by kernel_rfl) (c:=bodyOf Tryz.f77) (by kernel_rfl) (by decide) (ctxOK mixed tbl_ok rfl ⟨Z29,Z23,trivial⟩ trivial) (SumOK.of trivial) (by kernel_rfl) Zgi Zk3 rfl (by decide) (by decide) rfl (by decide) rfl Z2i (fun x=>by kernel_rfl)
abbrev Zfw:Shape:={ sl:=[(0,(.hole y45)),(1,(.hole y4))],bl:=[],ts:=[y45,y4],pin:=0 }
abbrev Zjh:Shape:={ sl:=[(0,(.hole y45)),(1,(.hole y27)),(2,(.hole (.int .i64)))],bl:=[],ts:=[y45,y27,(.int .i64)],pin:=0 }
def Z1a (x:((T47 × T61) × (Int × Int))):Option ((T47 × T61) × List (T20) × Int) :=
 (Z16 x.1).bind fun r6 =>
 (Z64 (r6,x.2)).bind fun r7 =>
 bif (Bool.not r7) then
 some (((([]:List Int),(0:Int),(0:Int),(0:Int),([]:List T21),([]:List (List T7))),([]:List T17),([]:List (Int × T41)),([]:List T22),([]:List (Int × T14)),(0:Int),(0:Int)),([]:List T20),(4:Int))
 else
 (Z5g x.1.2.1).bind fun r8 =>
 (Z5e x.1.2.2.1).bind fun r9 =>
 (Z5i x.1.2.2.2.1).bind fun r10 =>
 (Z5k x.1.2.2.2.2.1).bind fun r11 =>
 (Z26 (x.2.1,x.1.1,x.1.2.2.2.2.2,r8,r9,r10,r11,([]:List T20))).bind fun r12 =>
 bif (r12.1.1 == (((0:Nat):Nat):Int)) then
 (Z2e (x.2,r12.1,r12.2.1,r12.2.2.1,r12.2.2.2.1,r12.2.2.2.2.1,r12.2.2.2.2.2.1,r12.2.2.2.2.2.2.1,r12.2.2.2.2.2.2.2)).bind fun r13 =>
 (Z2u (r13.1,r13.2.1,r13.2.2.1,r13.2.2.2.1,r13.2.2.2.2.1,r13.2.2.2.2.2.1,r13.2.2.2.2.2.2)).bind fun r14 =>
 some ((r14.1,r14.2.2.1,r14.2.2.2.1,r14.2.2.2.2.1,r14.2.2.2.2.2.1,r14.2.1),r14.2.2.2.2.2.2,(0:Int))
 else
 bif (r12.1.1 == ((((0:Nat)+(1:Nat)):Nat):Int)) then
 (Z2s (x.2,r12.1,r12.2.1,r12.2.2.1,r12.2.2.2.1,r12.2.2.2.2.1,r12.2.2.2.2.2.1,r12.2.2.2.2.2.2.1,r12.2.2.2.2.2.2.2)).bind fun r13 =>
 (Z2u (r13.1,r13.2.1,r13.2.2.1,r13.2.2.2.1,r13.2.2.2.2.1,r13.2.2.2.2.2.1,r13.2.2.2.2.2.2)).bind fun r14 =>
 some ((r14.1,r14.2.2.1,r14.2.2.2.1,r14.2.2.2.2.1,r14.2.2.2.2.2.1,r14.2.1),r14.2.2.2.2.2.2,(0:Int))
 else
 bif (r12.1.1 == (((((0:Nat)+(1:Nat))+(1:Nat)):Nat):Int)) then
 (Z2o (x.2,r12.1,r12.2.1,r12.2.2.1,r12.2.2.2.1,r12.2.2.2.2.1,r12.2.2.2.2.2.1,r12.2.2.2.2.2.2.1,r12.2.2.2.2.2.2.2)).bind fun r13 =>
 (Z2u (r13.1,r13.2.1,r13.2.2.1,r13.2.2.2.1,r13.2.2.2.2.1,r13.2.2.2.2.2.1,r13.2.2.2.2.2.2)).bind fun r14 =>
 some ((r14.1,r14.2.2.1,r14.2.2.2.1,r14.2.2.2.2.1,r14.2.2.2.2.2.1,r14.2.1),r14.2.2.2.2.2.2,(0:Int))
 else
 bif (r12.1.1 == ((((((0:Nat)+(1:Nat))+(1:Nat))+(1:Nat)):Nat):Int)) then
 (Z31 (x.2,r12.1,r12.2.1,r12.2.2.1,r12.2.2.2.1,r12.2.2.2.2.1,r12.2.2.2.2.2.1,r12.2.2.2.2.2.2.1,r12.2.2.2.2.2.2.2)).bind fun r13 =>
 (Z2u (r13.1,r13.2.1,r13.2.2.1,r13.2.2.2.1,r13.2.2.2.2.1,r13.2.2.2.2.2.1,r13.2.2.2.2.2.2)).bind fun r14 =>
 some ((r14.1,r14.2.2.1,r14.2.2.2.1,r14.2.2.2.2.1,r14.2.2.2.2.2.1,r14.2.1),r14.2.2.2.2.2.2,(0:Int))
 else
 bif (r12.1.1 == (((((((0:Nat)+(1:Nat))+(1:Nat))+(1:Nat))+(1:Nat)):Nat):Int)) then
 (Z2q (x.2,r12.1,r12.2.1,r12.2.2.1,r12.2.2.2.1,r12.2.2.2.2.1,r12.2.2.2.2.2.1,r12.2.2.2.2.2.2.1,r12.2.2.2.2.2.2.2)).bind fun r13 =>
 (Z2u (r13.1,r13.2.1,r13.2.2.1,r13.2.2.2.1,r13.2.2.2.2.1,r13.2.2.2.2.2.1,r13.2.2.2.2.2.2)).bind fun r14 =>
 some ((r14.1,r14.2.2.1,r14.2.2.2.1,r14.2.2.2.2.1,r14.2.2.2.2.2.1,r14.2.1),r14.2.2.2.2.2.2,(0:Int))
 else
 bif (r12.1.1 == ((((((((0:Nat)+(1:Nat))+(1:Nat))+(1:Nat))+(1:Nat))+(1:Nat)):Nat):Int)) then
 (Z2a (x.2,r12.1,r12.2.1,r12.2.2.1,r12.2.2.2.1,r12.2.2.2.2.1,r12.2.2.2.2.2.1,r12.2.2.2.2.2.2.1,r12.2.2.2.2.2.2.2)).bind fun r13 =>
 (Z2u (r13.1,r13.2.1,r13.2.2.1,r13.2.2.2.1,r13.2.2.2.2.1,r13.2.2.2.2.2.1,r13.2.2.2.2.2.2)).bind fun r14 =>
 some ((r14.1,r14.2.2.1,r14.2.2.2.1,r14.2.2.2.2.1,r14.2.2.2.2.2.1,r14.2.1),r14.2.2.2.2.2.2,(0:Int))
 else
 bif (r12.1.1 == (((((((((0:Nat)+(1:Nat))+(1:Nat))+(1:Nat))+(1:Nat))+(1:Nat))+(1:Nat)):Nat):Int)) then
 (Z37 (x.2,r12.1,r12.2.1,r12.2.2.1,r12.2.2.2.1,r12.2.2.2.2.1,r12.2.2.2.2.2.1,r12.2.2.2.2.2.2.1,r12.2.2.2.2.2.2.2)).bind fun r13 =>
 (Z2u (r13.1,r13.2.1,r13.2.2.1,r13.2.2.2.1,r13.2.2.2.2.1,r13.2.2.2.2.2.1,r13.2.2.2.2.2.2)).bind fun r14 =>
 some ((r14.1,r14.2.2.1,r14.2.2.2.1,r14.2.2.2.2.1,r14.2.2.2.2.2.1,r14.2.1),r14.2.2.2.2.2.2,(0:Int))
 else
 bif (r12.1.1 == ((((((((((0:Nat)+(1:Nat))+(1:Nat))+(1:Nat))+(1:Nat))+(1:Nat))+(1:Nat))+(1:Nat)):Nat):Int)) then
 (Z1w (x.2,r12.1,r12.2.1,r12.2.2.1,r12.2.2.2.1,r12.2.2.2.2.1,r12.2.2.2.2.2.1,r12.2.2.2.2.2.2.1,r12.2.2.2.2.2.2.2)).bind fun r13 =>
 (Z2u (r13.1,r13.2.1,r13.2.2.1,r13.2.2.2.1,r13.2.2.2.2.1,r13.2.2.2.2.2.1,r13.2.2.2.2.2.2)).bind fun r14 =>
 some ((r14.1,r14.2.2.1,r14.2.2.2.1,r14.2.2.2.2.1,r14.2.2.2.2.2.1,r14.2.1),r14.2.2.2.2.2.2,(0:Int))
 else
 bif (r12.1.1 == (((((((((((0:Nat)+(1:Nat))+(1:Nat))+(1:Nat))+(1:Nat))+(1:Nat))+(1:Nat))+(1:Nat))+(1:Nat)):Nat):Int)) then
 (Z20 (x.2,r12.1,r12.2.1,r12.2.2.1,r12.2.2.2.1,r12.2.2.2.2.1,r12.2.2.2.2.2.1,r12.2.2.2.2.2.2.1,r12.2.2.2.2.2.2.2)).bind fun r13 =>
 (Z2u (r13.1,r13.2.1,r13.2.2.1,r13.2.2.2.1,r13.2.2.2.2.1,r13.2.2.2.2.2.1,r13.2.2.2.2.2.2)).bind fun r14 =>
 some ((r14.1,r14.2.2.1,r14.2.2.2.1,r14.2.2.2.2.1,r14.2.2.2.2.2.1,r14.2.1),r14.2.2.2.2.2.2,(0:Int))
 else
 bif (r12.1.1 == ((((((((((((0:Nat)+(1:Nat))+(1:Nat))+(1:Nat))+(1:Nat))+(1:Nat))+(1:Nat))+(1:Nat))+(1:Nat))+(1:Nat)):Nat):Int)) then
 (Z1u (x.2,r12.1,r12.2.1,r12.2.2.1,r12.2.2.2.1,r12.2.2.2.2.1,r12.2.2.2.2.2.1,r12.2.2.2.2.2.2.1,r12.2.2.2.2.2.2.2)).bind fun r13 =>
 (Z2u (r13.1,r13.2.1,r13.2.2.1,r13.2.2.2.1,r13.2.2.2.2.1,r13.2.2.2.2.2.1,r13.2.2.2.2.2.2)).bind fun r14 =>
 some ((r14.1,r14.2.2.1,r14.2.2.2.1,r14.2.2.2.2.1,r14.2.2.2.2.2.1,r14.2.1),r14.2.2.2.2.2.2,(0:Int))
 else
 bif (r12.1.1 == (((((((((((((0:Nat)+(1:Nat))+(1:Nat))+(1:Nat))+(1:Nat))+(1:Nat))+(1:Nat))+(1:Nat))+(1:Nat))+(1:Nat))+(1:Nat)):Nat):Int)) then
 (Z2m (x.2,r12.1,r12.2.1,r12.2.2.1,r12.2.2.2.1,r12.2.2.2.2.1,r12.2.2.2.2.2.1,r12.2.2.2.2.2.2.1,r12.2.2.2.2.2.2.2)).bind fun r13 =>
 (Z2u (r13.1,r13.2.1,r13.2.2.1,r13.2.2.2.1,r13.2.2.2.2.1,r13.2.2.2.2.2.1,r13.2.2.2.2.2.2)).bind fun r14 =>
 some ((r14.1,r14.2.2.1,r14.2.2.2.1,r14.2.2.2.2.1,r14.2.2.2.2.2.1,r14.2.1),r14.2.2.2.2.2.2,(0:Int))
 else
 bif (r12.1.1 == ((((((((((((((0:Nat)+(1:Nat))+(1:Nat))+(1:Nat))+(1:Nat))+(1:Nat))+(1:Nat))+(1:Nat))+(1:Nat))+(1:Nat))+(1:Nat))+(1:Nat)):Nat):Int)) then
 (Z3b (x.2,r12.1,r12.2.1,r12.2.2.1,r12.2.2.2.1,r12.2.2.2.2.1,r12.2.2.2.2.2.1,r12.2.2.2.2.2.2.1,r12.2.2.2.2.2.2.2)).bind fun r13 =>
 (Z2u (r13.1,r13.2.1,r13.2.2.1,r13.2.2.2.1,r13.2.2.2.2.1,r13.2.2.2.2.2.1,r13.2.2.2.2.2.2)).bind fun r14 =>
 some ((r14.1,r14.2.2.1,r14.2.2.2.1,r14.2.2.2.2.1,r14.2.2.2.2.2.1,r14.2.1),r14.2.2.2.2.2.2,(0:Int))
 else
 bif (r12.1.1 == (((((((((((((((0:Nat)+(1:Nat))+(1:Nat))+(1:Nat))+(1:Nat))+(1:Nat))+(1:Nat))+(1:Nat))+(1:Nat))+(1:Nat))+(1:Nat))+(1:Nat))+(1:Nat)):Nat):Int)) then
 (Z28 (x.2,r12.1,r12.2.1,r12.2.2.1,r12.2.2.2.1,r12.2.2.2.2.1,r12.2.2.2.2.2.1,r12.2.2.2.2.2.2.1,r12.2.2.2.2.2.2.2)).bind fun r13 =>
 (Z2u (r13.1,r13.2.1,r13.2.2.1,r13.2.2.2.1,r13.2.2.2.2.1,r13.2.2.2.2.2.1,r13.2.2.2.2.2.2)).bind fun r14 =>
 some ((r14.1,r14.2.2.1,r14.2.2.2.1,r14.2.2.2.2.1,r14.2.2.2.2.2.1,r14.2.1),r14.2.2.2.2.2.2,(0:Int))
 else
 bif (r12.1.1 == ((((((((((((((((0:Nat)+(1:Nat))+(1:Nat))+(1:Nat))+(1:Nat))+(1:Nat))+(1:Nat))+(1:Nat))+(1:Nat))+(1:Nat))+(1:Nat))+(1:Nat))+(1:Nat))+(1:Nat)):Nat):Int)) then
 (Z2i (x.2,r12.1,r12.2.1,r12.2.2.1,r12.2.2.2.1,r12.2.2.2.2.1,r12.2.2.2.2.2.1,r12.2.2.2.2.2.2.1,r12.2.2.2.2.2.2.2)).bind fun r13 =>
 (Z2u (r13.1,r13.2.1,r13.2.2.1,r13.2.2.2.1,r13.2.2.2.2.1,r13.2.2.2.2.2.1,r13.2.2.2.2.2.2)).bind fun r14 =>
 some ((r14.1,r14.2.2.1,r14.2.2.2.1,r14.2.2.2.2.1,r14.2.2.2.2.2.1,r14.2.1),r14.2.2.2.2.2.2,(0:Int))
 else
 none
abbrev Zn2:=Spec.shp Zfw Zjh Z1a
def Z9s:Ctx:={ tb:=mkTb T2.tbl,fx:=[(22,[],Zn0),(59,[],Zpf),(60,[],Zp3),(61,[],Zp2),(62,[],Zp4),(63,[],Zp5),(78,[],Zni),(64,[],Znm),(42,[],Znu),(65,[],Znt),(66,[],Znr),(67,[],Znx),(68,[],Zns),(69,[],Znk),(70,[],Zo0),(71,[],Znd),(72,[],Znf),(73,[],Znc),(74,[],Znq),(75,[],Zo2),(76,[],Znj),(77,[],Zno)],sum:=[],nt:=70,pin:=0,nr:=true,ys:=[] }
theorem Z1b:Sound Tryz.prog 23 (Zn2) :=
 Sound.shp (C:=Z9s) (fn:=Tryz.f23) (by kernel_rfl) (c:=bodyOf Tryz.f23) (by kernel_rfl) (by decide) (ctxOK mixed tbl_ok rfl ⟨Z17,Z65,Z5h,Z5f,Z5j,Z5l,Z27,Z2f,Z30,Z2t,Z2p,Z32,Z2r,Z2b,Z38,Z1x,Z21,Z1v,Z2n,Z3c,Z29,Z2j,trivial⟩ trivial) (SumOK.of trivial) (by kernel_rfl) Zfw Zjh rfl (by decide) (by decide) rfl (by decide) rfl Z1a (fun x=>by kernel_rfl)
abbrev Zeq:Shape:={ sl:=[(5,(.ptr 1 [])),(7,(.ptr 2 [])),(9,(.hole (.int .i64))),(24,(.hole (.int .i64))),(25,(.hole (.int .i64)))],bl:=bl_16,ts:=[(.int .i64),(.int .i64),(.int .i64),(.int .i64),(.int .i64),(.int .i64),(.int .i64),y4,y45],pin:=1 }
abbrev Zdv:List (ETag × Shape):=[(.exit 0,{ sl:=[(5,(.ptr 1 [])),(7,(.ptr 2 [])),(9,(.hole (.int .i64)))],bl:=bl_16,ts:=[(.int .i64),(.int .i64),(.int .i64),(.int .i64),(.int .i64),y4,y45],pin:=1 })]
def Z7y (x:(Int × Int × Int × Int × Int × Int × Int × (Int × Int) × (T47 × T61))):Option ((Int × Int × Int × Int × Int × Int × Int × (Int × Int) × (T47 × T61)) ⊕ (Int × Int × Int × Int × Int × (Int × Int) × (T47 × T61))) :=
 bif (decide (x.2.2.1 < x.2.1)) then
 (Z16 x.2.2.2.2.2.2.2.2).bind fun r4 =>
 bif (x.1 != (0:Int)) then
 some (.inr (x.1,x.2.2.2.1,x.2.2.2.2.1,x.2.2.2.2.2.1,x.2.2.2.2.2.2.1,x.2.2.2.2.2.2.2.1,x.2.2.2.2.2.2.2.2))
 else
 bif ((((List.length r4):Nat):Int) != (1:Int)) then
 some (.inr (x.1,x.2.2.2.1,x.2.2.2.2.1,x.2.2.2.2.2.1,x.2.2.2.2.2.2.1,x.2.2.2.2.2.2.2.1,x.2.2.2.2.2.2.2.2))
 else
 bif (inb (0:Int) (List.length r4)) then
 (Z1a (x.2.2.2.2.2.2.2.2,(getAt ((0:Int),(0:Int)) r4 (toN (0:Int))))).bind fun r5 =>
 some (.inl (r5.2.2,x.2.1,(IntKind.wrap .i64 (x.2.2.1+(1:Int))),x.2.2.2.1,x.2.2.2.2.1,x.2.2.2.2.2.1,x.2.2.2.2.2.2.1,x.2.2.2.2.2.2.2.1,r5.1))
 else
 none
 else
 some (.inr (x.1,x.2.2.2.1,x.2.2.2.2.1,x.2.2.2.2.2.1,x.2.2.2.2.2.2.1,x.2.2.2.2.2.2.2.1,x.2.2.2.2.2.2.2.2))
def Zba:Ctx:={ tb:=mkTb T2.tbl,fx:=[(14,[2000000],Zn1),(22,[],Zn0),(23,[],Zn2)],sum:=[],nt:=51,pin:=1,nr:=true,ys:=[] }
theorem Z7z:CSound Tryz.prog ⟨51,1,true⟩ (.loop (loopOf 4 Tryz.f26)) (Yah Zeq Zdv (loop Z7y)) :=
 Y81 (C:=Zba) (ctxOK mixed tbl_ok rfl ⟨Z19,Z17,Z1b,trivial⟩ trivial) (SumOK.of trivial) Zeq Zdv rfl rfl Z7y (fun x=>by kernel_rfl)
abbrev Zh4:Shape:={ sl:=[(0,(.hole y0)),(1,(.hole (.slice y5))),(2,(.ptr 0 []))],bl:=bl_3,ts:=[y0,(.slice y5),(.int .i64)],pin:=0 }
abbrev Zkp:Shape:={ sl:=[(0,(.hole y45)),(1,(.hole .bool))],bl:=bl_3,ts:=[y45,.bool,(.int .i64)],pin:=1 }
def Z3r (x:(List Int × List (T7) × Int)):Option ((T47 × T61) × Bool × Int) :=
 (Z18 (x.1,(0:Int),(0:Int),(0:Int),([]:List T21),(x.2.1 :: ([]:List (List T7))))).bind fun r2 =>
 (loop Z7y (r2.2.2,(IntKind.wrap .i64 (x.2.2+(8:Int))),(0:Int),x.2.2,(0:Int),(0:Int),(0:Int),((0:Int),(0:Int)),r2.1)).bind fun r3 =>
 some (r3.2.2.2.2.2.2,(r3.1 == (0:Int)),r3.2.1)
abbrev Zoa:=Spec.shp Zh4 Zkp Z3r
def Zb9:Ctx:={ tb:=mkTb T2.tbl,fx:=[(14,[2000000],Zn1),(22,[],Zn0),(23,[],Zn2)],sum:=[(0,4,Yah Zeq Zdv (loop Z7y))],nt:=51,pin:=1,nr:=true,ys:=[] }
theorem Z3s:Sound Tryz.prog 26 (Zoa) :=
 Sound.shp (C:=Zb9) (fn:=Tryz.f26) (by kernel_rfl) (c:=bodyOf Tryz.f26) (by kernel_rfl) (by decide) (ctxOK mixed tbl_ok rfl ⟨Z19,Z17,Z1b,trivial⟩ trivial) (SumOK.of ⟨(Yaj (d:=.loop (loopOf 4 Tryz.f26)) (by kernel_rfl) Z7z),trivial⟩) (by kernel_rfl) Zh4 Zkp rfl (by decide) (by decide) rfl (by decide) rfl Z3r (fun x=>by kernel_rfl)
abbrev Zer:Shape:={ sl:=[(0,(.hole (.int .i64))),(5,(.fn 26 .nil (.cons (.ptr 0 []) .nil))),(6,(.ptr 1 [])),(7,(.hole .bool)),(8,(.ptr 2 [])),(9,(.hole .bool)),(10,(.ptr 3 [])),(11,(.hole .bool)),(12,(.sl 4)),(52,(.hole (.int .i64))),(53,(.hole (.int .i64)))],bl:=bl_17,ts:=[(.int .i64),.bool,.bool,.bool,(.int .i64),(.int .i64),(.int .i64),y45,y45,y45,(.slice y5)],pin:=0 }
abbrev Zdw:List (ETag × Shape):=[(.exit 0,{ sl:=[(0,(.hole (.int .i64))),(5,(.fn 26 .nil (.cons (.ptr 0 []) .nil))),(6,(.ptr 1 [])),(7,(.hole .bool)),(8,(.ptr 2 [])),(9,(.hole .bool)),(10,(.ptr 3 [])),(11,(.hole .bool)),(12,(.sl 4))],bl:=bl_17,ts:=[(.int .i64),.bool,.bool,.bool,(.int .i64),y45,y45,y45,(.slice y5)],pin:=0 })]
def Z80 (x:(Int × Bool × Bool × Bool × Int × Int × Int × (T47 × T61) × (T47 × T61) × (T47 × T61) × List (T7))):Option ((Int × Bool × Bool × Bool × Int × Int × Int × (T47 × T61) × (T47 × T61) × (T47 × T61) × List (T7)) ⊕ (Int × Bool × Bool × Bool × Int × (T47 × T61) × (T47 × T61) × (T47 × T61) × List (T7))) :=
 bif (decide (x.2.2.2.2.2.1 < x.2.2.2.2.1)) then
 bif (fits ((List.length x.2.2.2.2.2.2.2.2.2.2)+(List.length (((1:Int),(0:Int),(0:Int)) :: ([]:List T7))))) then
 some (.inl (x.1,x.2.1,x.2.2.1,x.2.2.2.1,x.2.2.2.2.1,(IntKind.wrap .i64 (x.2.2.2.2.2.1+(1:Int))),x.2.2.2.2.2.2.1,x.2.2.2.2.2.2.2.1,x.2.2.2.2.2.2.2.2.1,x.2.2.2.2.2.2.2.2.2.1,(x.2.2.2.2.2.2.2.2.2.2++(((1:Int),(0:Int),(0:Int)) :: ([]:List T7)))))
 else
 none
 else
 some (.inr (x.1,x.2.1,x.2.2.1,x.2.2.2.1,x.2.2.2.2.2.2.1,x.2.2.2.2.2.2.2.1,x.2.2.2.2.2.2.2.2.1,x.2.2.2.2.2.2.2.2.2.1,x.2.2.2.2.2.2.2.2.2.2))
def Zbb:Ctx:={ tb:=mkTb T2.tbl,fx:=[(26,[2000000,2000000],Zoa),(26,[2000000],Zoa)],sum:=[],nt:=125,pin:=0,nr:=true,ys:=[] }
theorem Z81:CSound Tryz.prog ⟨125,0,true⟩ (.loop (loopOf 9 Tryz.f6)) (Yah Zer Zdw (loop Z80)) :=
 Y81 (C:=Zbb) (ctxOK mixed tbl_ok rfl ⟨Z3s,Z3s,trivial⟩ trivial) (SumOK.of trivial) Zer Zdw rfl rfl Z80 (fun x=>by kernel_rfl)
abbrev Zh6:Shape:={ sl:=[],bl:=[],ts:=[],pin:=0 }
abbrev Zkr:Shape:={ sl:=sl_6,bl:=[],ts:=[y39],pin:=0 }
def Z3v (x:Unit):Option (T47) :=
 some (((0:Int) :: ([]:List Int)),(0:Int),(0:Int),(0:Int),([]:List T21),((((9:Int),(1:Int),(0:Int)) :: (((2:Int),(0:Int),(0:Int)) :: ([]:List T7))) :: ((((1:Int),(0:Int),(0:Int)) :: ([]:List T7)) :: ([]:List (List T7)))))
abbrev Zoc:=Spec.shp Zh6 Zkr Z3v
def Zbf:Ctx:={ tb:=mkTb T2.tbl,fx:=[],sum:=[],nt:=9,pin:=0,nr:=true,ys:=[] }
theorem Z3w:Sound Tryz.prog 44 (Zoc) :=
 Sound.shp (C:=Zbf) (fn:=Tryz.f44) (by kernel_rfl) (c:=bodyOf Tryz.f44) (by kernel_rfl) (by decide) (ctxOK mixed tbl_ok rfl trivial trivial) (SumOK.of trivial) (by kernel_rfl) Zh6 Zkr rfl (by decide) (by decide) rfl (by decide) rfl Z3v (fun x=>by kernel_rfl)
abbrev Zet:Shape:={ sl:=[(1,(.ptr 0 [])),(2,(.hole y27)),(3,(.hole (.int .i64))),(4,(.sl 1)),(19,(.sl 2)),(20,(.hole (.int .i64))),(21,(.hole (.int .i64)))],bl:=[.var (.hole y45),.row (.int .i64),.row (.int .i64)],ts:=[y27,(.int .i64),(.int .i64),(.int .i64),y45,y0,y0],pin:=0 }
abbrev Zdy:List (ETag × Shape):=[(.ret,{ sl:=sl_1,bl:=[],ts:=ts_1,pin:=0 }),(.exit 0,{ sl:=[(1,(.ptr 0 [])),(2,(.hole y27)),(3,(.hole (.int .i64))),(4,(.sl 1))],bl:=[.var (.hole y45),.row (.int .i64)],ts:=[y27,(.int .i64),y45,y0],pin:=0 })]
def Z84 (x:(List (T20) × Int × Int × Int × (T47 × T61) × List Int × List Int)):Option ((List (T20) × Int × Int × Int × (T47 × T61) × List Int × List Int) ⊕ ((Bool) ⊕ (List (T20) × Int × (T47 × T61) × List Int))) :=
 bif (decide (x.2.2.2.1 < x.2.2.1)) then
 bif (inb x.2.2.2.1 (List.length x.2.2.2.2.2.2)) then
 (Z1a (x.2.2.2.2.1,(getAt (0:Int) x.2.2.2.2.2.2 (toN x.2.2.2.1)),(Int.negSucc 0))).bind fun r10 =>
 bif (r10.2.2 != (0:Int)) then
 some (.inr (.inl false))
 else
 bif (fits ((List.length ([]:List T20))+(List.length x.1))) then
 bif (fits ((List.length (([]:List T20)++x.1))+(List.length r10.2.1))) then
 some (.inl (((([]:List T20)++x.1)++r10.2.1),x.2.1,x.2.2.1,(IntKind.wrap .i64 (x.2.2.2.1+(1:Int))),r10.1,x.2.2.2.2.2.1,x.2.2.2.2.2.2))
 else
 none
 else
 none
 else
 none
 else
 some (.inr (.inr (x.1,x.2.1,x.2.2.2.2.1,x.2.2.2.2.2.1)))
def Zbe:Ctx:={ tb:=mkTb T2.tbl,fx:=[(44,[],Zoc),(14,[],Zn1),(23,[],Zn2)],sum:=[],nt:=71,pin:=0,nr:=true,ys:=[] }
theorem Z85:CSound Tryz.prog ⟨71,0,true⟩ (.loop (loopOf 5 Tryz.f16)) (Yah Zet Zdy (loop Z84)) :=
 Y81 (C:=Zbe) (ctxOK mixed tbl_ok rfl ⟨Z3w,Z19,Z1b,trivial⟩ trivial) (SumOK.of trivial) Zet Zdy rfl rfl Z84 (fun x=>by kernel_rfl)
abbrev Zes:Shape:={ sl:=[(4,(.sl 0)),(56,(.hole y27)),(57,(.hole (.int .i64))),(58,(.hole (.int .i64)))],bl:=bl_14,ts:=[y27,(.int .i64),(.int .i64),y0],pin:=0 }
abbrev Zdx:List (ETag × Shape):=[(.ret,{ sl:=sl_1,bl:=[],ts:=ts_1,pin:=0 }),(.exit 2,{ sl:=[],bl:=[],ts:=[],pin:=0 })]
def Z82 (x:(List (T20) × Int × Int × List Int)):Option ((List (T20) × Int × Int × List Int) ⊕ ((Bool) ⊕ Unit)) :=
 bif (decide (x.2.2.1 < x.2.1)) then
 bif (inb x.2.2.1 (List.length x.1)) then
 bif (inb x.2.2.1 (List.length x.2.2.2)) then
 bif ((getAt ((0:Int),(0:Int),(0:Int),(0:Int),(0:Int)) x.1 (toN x.2.2.1)).2.1 != (getAt (0:Int) x.2.2.2 (toN x.2.2.1))) then
 some (.inr (.inl false))
 else
 some (.inl (x.1,x.2.1,(IntKind.wrap .i64 (x.2.2.1+(1:Int))),x.2.2.2))
 else
 none
 else
 none
 else
 some (.inr (.inr ()))
def Zbd:Ctx:={ tb:=mkTb T2.tbl,fx:=[(44,[],Zoc),(14,[],Zn1),(23,[],Zn2)],sum:=[(0,5,Yah Zet Zdy (loop Z84))],nt:=71,pin:=0,nr:=true,ys:=[] }
theorem Z83:CSound Tryz.prog ⟨71,0,true⟩ (.loop (loopOf 15 Tryz.f16)) (Yah Zes Zdx (loop Z82)) :=
 Y81 (C:=Zbd) (ctxOK mixed tbl_ok rfl ⟨Z3w,Z19,Z1b,trivial⟩ trivial) (SumOK.of ⟨(Yai (by kernel_rfl)),trivial⟩) Zes Zdx rfl rfl Z82 (fun x=>by kernel_rfl)
abbrev Zh5:Shape:={ sl:=[],bl:=[],ts:=[],pin:=0 }
abbrev Zkq:Shape:={ sl:=sl_1,bl:=[],ts:=ts_1,pin:=0 }
def Z3t (x:Unit):Option (Bool) :=
 (Z3v ()).bind fun r7 =>
 (Z18 r7).bind fun r8 =>
 (loop Z84 (r8.2.1,r8.2.2,(((List.length ((0:Int) :: ((0:Int) :: ((1:Int) :: ([]:List Int))))):Nat):Int),(0:Int),r8.1,((0:Int) :: ((1:Int) :: ((0:Int) :: ((4:Int) :: ((2:Int) :: ((5:Int) :: ((3:Int) :: ([]:List Int)))))))),((0:Int) :: ((0:Int) :: ((1:Int) :: ([]:List Int)))))).bind fun r9 =>
 match r9 with
 | .inl y10 =>
 some y10
 | .inr y10 =>
 bif (y10.2.1 != (0:Int)) then
 some false
 else
 bif ((((List.length y10.1):Nat):Int) != (((List.length y10.2.2.2):Nat):Int)) then
 some false
 else
 bif (y10.2.2.1.2.2.2.2.2.2 != (1:Int)) then
 some false
 else
 (loop Z82 (y10.1,(((List.length y10.1):Nat):Int),(0:Int),y10.2.2.2)).bind fun r11 =>
 match r11 with
 | .inl y12 =>
 some y12
 | .inr y12 =>
 some true
abbrev Zob:=Spec.shp Zh5 Zkq Z3t
def Zbc:Ctx:={ tb:=mkTb T2.tbl,fx:=[(44,[],Zoc),(14,[],Zn1),(23,[],Zn2)],sum:=[(0,5,Yah Zet Zdy (loop Z84)),(0,15,Yah Zes Zdx (loop Z82))],nt:=71,pin:=0,nr:=true,ys:=[] }
theorem Z3u:Sound Tryz.prog 16 (Zob) :=
 Sound.shp (C:=Zbc) (fn:=Tryz.f16) (by kernel_rfl) (c:=bodyOf Tryz.f16) (by kernel_rfl) (by decide) (ctxOK mixed tbl_ok rfl ⟨Z3w,Z19,Z1b,trivial⟩ trivial) (SumOK.of ⟨(Yaj (d:=.loop (loopOf 5 Tryz.f16)) (by kernel_rfl) Z85),(Yaj (d:=.loop (loopOf 15 Tryz.f16)) (by kernel_rfl) Z83),trivial⟩) (by kernel_rfl) Zh5 Zkq rfl (by decide) (by decide) rfl (by decide) rfl Z3t (fun x=>by kernel_rfl)
def F_plaitlaw12_MachineEnds (x:(Int × Int)):Option (Bool) :=
 (Z3r (((Int.tmod (IntKind.wrap .i64 ((Int.tmod x.1 (4:Int))+(4:Int))) (4:Int)) :: ([]:List Int)),(((2:Int),(0:Int),(0:Int)) :: ([]:List T7)),(IntKind.wrap .i64 ((1:Int)+(Int.tmod (IntKind.wrap .i64 ((Int.tmod x.2 (20:Int))+(20:Int))) (20:Int)))))).bind fun r1 =>
 (Z3r (([]:List Int),(((0:Int),(0:Int),(0:Int)) :: (((12:Int),(0:Int),(0:Int)) :: ([]:List T7))),r1.2.2)).bind fun r2 =>
 (Z3r (((Int.tmod (IntKind.wrap .i64 ((Int.tmod x.1 (4:Int))+(4:Int))) (4:Int)) :: ([]:List Int)),(((3:Int),(0:Int),(0:Int)) :: (((3:Int),(0:Int),(0:Int)) :: ([]:List T7))),r2.2.2)).bind fun r3 =>
 (loop Z80 ((Int.tmod (IntKind.wrap .i64 ((Int.tmod x.1 (4:Int))+(4:Int))) (4:Int)),r1.2.1,r2.2.1,r3.2.1,(Int.tmod (IntKind.wrap .i64 ((Int.tmod x.1 (4:Int))+(4:Int))) (4:Int)),(0:Int),r3.2.2,r1.1,r2.1,r3.1,([]:List T7))).bind fun r4 =>
 bif (fits ((List.length r4.2.2.2.2.2.2.2.2)+(List.length (((1:Int),(0:Int),(0:Int)) :: ([]:List T7))))) then
 (Z3r ((r4.1 :: ([]:List Int)),(r4.2.2.2.2.2.2.2.2++(((1:Int),(0:Int),(0:Int)) :: ([]:List T7))),r4.2.2.2.2.1)).bind fun r5 =>
 (Z3t ()).bind fun r6 =>
 bif r6 then
 bif r4.2.1 then
 bif r4.2.2.1 then
 bif r4.2.2.2.1 then
 bif r5.2.1 then
 bif (r4.2.2.2.2.2.1.2.2.2.2.2.2 == (2:Int)) then
 bif (r4.2.2.2.2.2.2.1.2.2.2.2.2.2 == (0:Int)) then
 bif (r4.2.2.2.2.2.2.2.1.2.2.2.2.2.2 == (3:Int)) then
 bif (r5.1.2.2.2.2.2.2 == (2:Int)) then
 bif ((((List.length r4.2.2.2.2.2.2.1.2.1):Nat):Int) == (1:Int)) then
 bif ((((List.length r5.1.2.2.1):Nat):Int) == (1:Int)) then
 bif (inb (0:Int) (List.length r5.1.2.2.1)) then
 some ((getAt ((0:Int),false,((0:Int),(0:Int),([]:List Int),(0:Int)),(0:Int),(0:Int),([]:List T7),([]:List T7)) r5.1.2.2.1 (toN (0:Int))).2.2.2.1 == r4.1)
 else
 none
 else
 some false
 else
 some false
 else
 some false
 else
 some false
 else
 some false
 else
 some false
 else
 some false
 else
 some false
 else
 some false
 else
 some false
 else
 some false
 else
 none
def Zb8:Ctx:={ tb:=mkTb T2.tbl,fx:=[(26,[2000000,2000000],Zoa),(26,[2000000],Zoa),(16,[],Zob)],sum:=[(0,9,Yah Zer Zdw (loop Z80))],nt:=125,pin:=0,nr:=true,ys:=[] }
theorem F_plaitlaw12_MachineEnds_ok:Sound Tryz.prog 6 (Spec.pure [(.int .i64),(.int .i64)] [.bool] F_plaitlaw12_MachineEnds) :=
 Sound.pure (C:=Zb8) (fn:=Tryz.f6) (by kernel_rfl) (c:=bodyOf Tryz.f6) (by kernel_rfl) (by decide) (ctxOK mixed tbl_ok rfl ⟨Z3s,Z3s,Z3u,trivial⟩) (SumOK.of ⟨(Yaj (d:=.loop (loopOf 9 Tryz.f6)) (by kernel_rfl) Z81),trivial⟩) (by kernel_rfl) rfl _ _ (by decide) _ (fun x=>by kernel_rfl)
def Z86 (x:T26):Option (T26 ⊕ ((Bool) ⊕ Unit)) :=
 bif (decide (x.2.2.2 < x.2.2.1)) then
 bif (inb x.2.2.2 (List.length x.1)) then
 bif (inb x.2.2.2 (List.length x.2.1)) then
 bif (Bool.not (((getAt ((0:Int),(0:Int),(0:Int)) x.1 (toN x.2.2.2)).1 == (getAt ((0:Int),(0:Int),(0:Int)) x.2.1 (toN x.2.2.2)).1) && (((getAt ((0:Int),(0:Int),(0:Int)) x.1 (toN x.2.2.2)).2.1 == (getAt ((0:Int),(0:Int),(0:Int)) x.2.1 (toN x.2.2.2)).2.1) && ((getAt ((0:Int),(0:Int),(0:Int)) x.1 (toN x.2.2.2)).2.2 == (getAt ((0:Int),(0:Int),(0:Int)) x.2.1 (toN x.2.2.2)).2.2)))) then
 some (.inr (.inl false))
 else
 some (.inl (x.1,x.2.1,x.2.2.1,(IntKind.wrap .i64 (x.2.2.2+(1:Int)))))
 else
 none
 else
 none
 else
 some (.inr (.inr ()))
def Z3x (x:T24):Option (Bool) :=
 bif ((((List.length x.1):Nat):Int) != (((List.length x.2):Nat):Int)) then
 some false
 else
 (loop Z86 (x.1,x.2,(((List.length x.1):Nat):Int),(0:Int))).bind fun r11 =>
 match r11 with
 | .inl y12 =>
 some y12
 | .inr y12 =>
 some true
end
end Go.Proofs.YthdlpkdojipfhaaGreat.VX.VxM_M
set_option linter.unusedVariables false
set_option maxRecDepth 100000
namespace Go.Proofs.YthdlpkdojipfhaaGreat.VX.VxM_M
open Go.Proofs Go.Proofs.YthdlpkdojipfhaaGreat.VX.T2
noncomputable section
end
end Go.Proofs.YthdlpkdojipfhaaGreat.VX.VxM_M
set_option linter.unusedVariables false
set_option maxRecDepth 100000
namespace Go.Proofs.YthdlpkdojipfhaaGreat.VX.VxM_M
open Go.Proofs Go.Proofs.YthdlpkdojipfhaaGreat.VX.T2
noncomputable section
end
end Go.Proofs.YthdlpkdojipfhaaGreat.VX.VxM_M

