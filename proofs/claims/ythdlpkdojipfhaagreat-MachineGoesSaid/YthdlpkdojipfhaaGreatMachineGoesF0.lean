/- Laid for the law MachineGoes. -/
import Derived.Test.YthdlpkdojipfhaaGreatMachineGoesE15
import Derived.Test.YthdlpkdojipfhaaGreatMachineGoesE16
set_option linter.unusedVariables false
set_option maxRecDepth 100000
namespace Go.Proofs.YthdlpkdojipfhaaGreat.VX.VxM_M
open Go.Proofs Go.Proofs.YthdlpkdojipfhaaGreat.VX.T2
noncomputable section
theorem mixed:Tryz.prog.follows .mixedOrders=true:=by kernel_rfl
abbrev T0:=Bool × Int
abbrev T1:=Int × Bool
abbrev T2:=List Int × Int
abbrev T3:=Int × List Int
abbrev T4:=Int × Int × Int
abbrev T5:=(List Int) × Int
abbrev T6:=List (Int × Int)
abbrev T7:=Int × (Int × Int)
abbrev T8:=(Int × Int) × Int
abbrev T9:=List Int × Int × Int
abbrev T11:=List (Int × Int) × Int × Int × (Int × Int)
abbrev T12:=List T0 × Bool
abbrev T13:=Int × List (T7)
abbrev T14:=Int × (List T7)
abbrev T15:=List (T7) × Int
abbrev T16:=Int × (Int × T2)
abbrev T17:=Int × (Int × T1)
abbrev T18:=Bool × List (T7)
abbrev T19:=Int × (Int × T5)
abbrev T20:=Int × (Int × T7)
abbrev T21:=(List T0) × Bool
abbrev T22:=Bool × (List T7)
abbrev T23:=Int × (T7 × Int)
abbrev T24:=List (T7) × List (T7)
abbrev T25:=(List T7) × (List T7)
abbrev T26:=List (T7) × List (T7) × Int × Int
abbrev T29:=(Int × T13)
abbrev T30:=(Int × T13) × T7
abbrev T31:=Int × (Int × T24)
abbrev T32:=Int × (Int × T25)
abbrev T33:=Int × T16 × List Int
abbrev T34:=(Int × T13) × Int × Int
abbrev T35:=List (T12) × List (List (T7))
abbrev T39:=Int × (Int × T35)
abbrev T40:=Bool × (T16 × T31)
abbrev T41:=Bool × (T19 × T32)
abbrev T42:=List T29 × (Int × Int)
abbrev T43:=(Int × T40)
abbrev T44:=List (T18) × T42
abbrev T45:=(Int × T40) × T7
abbrev T46:=(Int × T40) × Int
abbrev T47:=List Int × (Int × T39)
abbrev T48:=(Int × T40) × (Int × T23) × Int
abbrev T49:=List T43 × T44
abbrev T50:=T47 × List (T7)
abbrev T53:=List (T12) × Int × Int × T47
abbrev T54:=List (List (T7)) × Int × Int × T47
abbrev T55:=List (T12) × Int × Int × T47 × Int × Int × Int × List (T12)
abbrev T56:=Int × List (T7) × List (List (T7)) × Int × Int × List (T7) × Int × Int × T47
abbrev T57:=T47 × (Int × Int) × List (T17) × List T43 × List (T18) × List T29 × List (T20)
abbrev T58:=Int × T47 × (Int × Int) × List (T17) × List T43 × List (T18) × List T29 × List (T20)
abbrev T59:=List (List (T7)) × Int × Int × T47 × Int × Int × Int × List (T12) × List (List (T7))
abbrev T60:=(Int × Int) × T7 × T47 × (Int × Int) × List (T17) × List T43 × List (T18) × List T29 × List (T20)
abbrev T61:=List (T17) × T49
abbrev T62:=(T47 × T61)
abbrev T64:=List Int × Int × Int × (T47 × T61)
abbrev T67:=List (T17) × Int × Int × (T47 × T61) × List (Int × Int)
abbrev T68:=Int × List T0 × Int × Int × (T47 × T61) × List (Int × Int)
abbrev y0:Ty:=.slice (.int .i64)
abbrev y1:Ty:=.arr 8 (.int .i64)
abbrev y2:Ty:=.pair .bool (.int .i64)
abbrev y3:Ty:=.pair (.int .i64) .bool
abbrev y4:Ty:=.pair (.int .i64) (.int .i64)
abbrev y5:Ty:=.pair (.int .i64) y4
abbrev y6:Ty:=.pair y0 (.int .i64)
abbrev y7:Ty:=.pair (.int .i64) y3
abbrev y8:Ty:=.pair y4 (.int .i64)
abbrev y9:Ty:=.pair (.slice y2) .bool
abbrev y10:Ty:=.slice (.slice y5)
abbrev y11:Ty:=.pair (.int .i64) y6
abbrev y12:Ty:=.pair (.int .i64) y7
abbrev y13:Ty:=.pair (.int .i64) y5
abbrev y14:Ty:=.pair y5 (.int .i64)
abbrev y15:Ty:=.pair .bool (.slice y5)
abbrev y16:Ty:=.pair (.slice y5) (.slice y5)
abbrev y17:Ty:=.pair (.int .i64) (.slice y5)
abbrev y18:Ty:=.slice y12
abbrev y19:Ty:=.slice y15
abbrev y20:Ty:=.pair (.slice y9) y10
abbrev y21:Ty:=.pair (.int .i64) y11
abbrev y22:Ty:=.pair (.int .i64) y16
abbrev y23:Ty:=.pair (.int .i64) y17
abbrev y24:Ty:=.pair (.int .i64) y13
abbrev y25:Ty:=.pair (.int .i64) y14
abbrev y26:Ty:=.slice y23
abbrev y27:Ty:=.slice y24
abbrev y28:Ty:=.pair (.int .i64) y20
abbrev y29:Ty:=.pair (.int .i64) y22
abbrev y30:Ty:=.pair (.int .i64) y25
abbrev y31:Ty:=.pair y26 y4
abbrev y32:Ty:=.pair y21 y29
abbrev y33:Ty:=.pair (.int .i64) y28
abbrev y35:Ty:=.pair y19 y31
abbrev y36:Ty:=.pair .bool y32
abbrev y37:Ty:=.pair (.int .i64) y33
abbrev y39:Ty:=.pair y0 y37
abbrev y40:Ty:=.pair (.int .i64) y36
abbrev y41:Ty:=.slice y40
abbrev y42:Ty:=.pair y40 (.int .i64)
abbrev y43:Ty:=.pair y41 y35
abbrev y44:Ty:=.pair y18 y43
abbrev y45:Ty:=.pair y39 y44
abbrev bl_0:List BPat:=[.var (.hole y39)]
abbrev bl_1:List BPat:=[.var (.pr (.pr .nl (.pr (.hole (.int .i64)) (.pr (.hole (.int .i64)) (.pr (.hole (.int .i64)) (.pr .nl .nl))))) (.pr .nl (.pr .nl (.pr .nl (.pr .nl (.hole y4)))))),.var (.pr (.hole y39) (.pr (.sl 2) (.pr (.sl 3) (.pr (.sl 4) (.pr (.sl 5) (.hole y4)))))),.row y12,.row y40,.row y15,.row y23]
abbrev bl_2:List BPat:=[.var (.pr (.pr (.hole y39) (.pr (.sl 1) (.pr (.sl 2) (.pr (.sl 3) (.pr (.sl 4) (.hole y4)))))) (.sl 5)),.row y12,.row y40,.row y15,.row y23,.row y24]
abbrev bl_3:List BPat:=[.var (.hole (.int .i64))]
abbrev bl_4:List BPat:=[.row y12,.var (.hole (.int .i64))]
abbrev bl_5:List BPat:=[.var (.ptr 1 []),.var (.pr (.pr (.hole y39) (.pr (.sl 2) (.pr (.sl 3) (.pr (.sl 4) (.pr (.sl 5) (.hole y4)))))) (.sl 6)),.row y12,.row y40,.row y15,.row y23,.row y24]
abbrev bl_6:List BPat:=[.lp 10485766 [4] (.cons (.ptr 2 []) .nil),.var (.hole (.one y21)),.var (.sl 3),.row (.int .i64)]
abbrev bl_7:List BPat:=[.lpt 10485766 [4] (.cons (.ptr 2 []) .nil),.var (.hole (.one y21)),.var (.sl 3),.row (.int .i64)]
abbrev bl_8:List BPat:=[.var (.hole y45),.var (.hole (.int .i64)),.var (.hole .bool)]
abbrev bl_9:List BPat:=[.var (.hole y45)]
abbrev bl_10:List BPat:=[.var (.hole y45),.var (.hole (.int .i64)),.var (.hole (.int .i64))]
abbrev bl_11:List BPat:=[.row y5,.var (.hole (.int .i64))]
abbrev bl_12:List BPat:=[.var (.hole y42)]
abbrev bl_13:List BPat:=[.var (.hole y45),.row y4]
abbrev bl_14:List BPat:=[.row (.int .i64)]
abbrev bl_15:List BPat:=[.var (.pr (.pr (.hole y39) (.pr (.sl 2) (.pr (.sl 3) (.pr (.sl 4) (.pr (.sl 5) (.hole y4)))))) (.sl 6)),.var (.hole y4),.row y12,.row y40,.row y15,.row y23,.row y24]
abbrev bl_18:List BPat:=[.var (.hole y39),.var (.pr .nl (.pr (.hole (.int .i64)) (.pr (.hole (.int .i64)) (.pr (.hole (.int .i64)) (.pr .nl .nl))))),.row y9]
abbrev bl_19:List BPat:=[.var (.hole y39),.var (.pr .nl (.pr (.hole (.int .i64)) (.pr (.hole (.int .i64)) (.pr (.hole (.int .i64)) (.pr .nl .nl))))),.row y9,.row (.slice y5)]
abbrev bl_20:List BPat:=[.var (.hole y45),.var (.hole y45)]
abbrev bl_30:List BPat:=[.var (.hole y45),.var (.hole y4),.var (.hole y45),.mp (.int .i64) (.int .i64)]
abbrev ts_0:List Ty:=[(.int .i64),(.int .i64),(.int .i64)]
abbrev ts_1:List Ty:=[.bool]
abbrev ts_2:List Ty:=[(.int .i64)]
abbrev ts_3:List Ty:=[y0,(.int .i64),(.int .i64)]
abbrev ts_4:List Ty:=[(.slice y9),(.int .i64),(.int .i64),y39]
abbrev ts_5:List Ty:=[(.int .i64),(.int .i64)]
abbrev ts_6:List Ty:=[y39,(.slice y5)]
abbrev ts_7:List Ty:=[(.int .i64),(.slice y5),y10,(.int .i64),(.int .i64),(.slice y5),(.int .i64),(.int .i64),y39]
abbrev ts_8:List Ty:=[y10,(.int .i64),(.int .i64),y39]
abbrev ts_9:List Ty:=[(.int .i64),(.int .i64),(.int .i64),y4,y39,y4,y18,y41,y19,y26]
abbrev ts_10:List Ty:=[(.int .i64),y39,y4,y18,y41,y19,y26,y27]
abbrev ts_11:List Ty:=[y39,y4,y18,y41,y19,y26,y27]
abbrev ts_12:List Ty:=[(.slice y5),(.int .i64)]
abbrev ts_13:List Ty:=[(.int .i64),(.slice y2),(.int .i64),(.int .i64),y45,(.slice y4)]
abbrev ts_14:List Ty:=[y4,y5,y39,y4,y18,y41,y19,y26,y27]
abbrev ts_15:List Ty:=[y23,(.int .i64),(.int .i64)]
abbrev ts_16:List Ty:=[(.slice y9),(.int .i64),(.int .i64),y39,(.int .i64),(.int .i64),(.int .i64),(.slice y9)]
abbrev ts_17:List Ty:=[y10,(.int .i64),(.int .i64),y39,(.int .i64),(.int .i64),(.int .i64),(.slice y9),y10]
abbrev sl_0:List (Nat × Pat):=[(0,(.hole (.int .i64))),(1,(.hole (.int .i64))),(2,(.hole (.int .i64)))]
abbrev sl_1:List (Nat × Pat):=[(0,(.hole .bool))]
abbrev sl_2:List (Nat × Pat):=[(0,(.hole (.int .i64)))]
abbrev sl_3:List (Nat × Pat):=[(4,(.hole (.int .i64)))]
abbrev sl_4:List (Nat × Pat):=[(0,(.hole (.slice y2))),(1,(.fn 194 .nil (.cons (.ptr 0 []) .nil)))]
abbrev sl_5:List (Nat × Pat):=[(2,(.hole (.int .i64))),(3,(.hole (.int .i64)))]
abbrev sl_6:List (Nat × Pat):=[(0,(.hole y39))]
abbrev sl_7:List (Nat × Pat):=[(0,(.hole (.int .i64))),(1,(.hole (.int .i64)))]
abbrev sl_8:List (Nat × Pat):=[(0,(.hole y39)),(1,(.hole (.slice y5)))]
abbrev sl_9:List (Nat × Pat):=[(1,(.ptr 0 [])),(7,(.hole (.int .i64))),(8,(.hole (.slice y5))),(22,(.hole y10)),(23,(.hole (.int .i64))),(24,(.hole (.int .i64))),(33,(.hole (.slice y5))),(34,(.hole (.int .i64))),(35,(.hole (.int .i64)))]
abbrev sl_10:List (Nat × Pat):=[(2,(.hole (.int .i64))),(3,(.hole (.int .i64))),(4,(.hole (.int .i64)))]
abbrev sl_11:List (Nat × Pat):=[(1,(.ptr 0 [])),(22,(.hole y10)),(23,(.hole (.int .i64))),(24,(.hole (.int .i64)))]
abbrev sl_12:List (Nat × Pat):=[(0,(.hole y21)),(1,(.hole (.int .i64)))]
abbrev sl_13:List (Nat × Pat):=[(0,(.hole y40)),(1,(.hole (.int .i64)))]
abbrev sl_14:List (Nat × Pat):=[(0,(.ptr 0 [])),(1,(.hole (.int .i64))),(2,(.hole (.int .i64)))]
abbrev sl_15:List (Nat × Pat):=[(0,(.ptr 0 []))]
abbrev sl_16:List (Nat × Pat):=[(0,(.hole y0)),(1,(.hole (.int .i64)))]
abbrev sl_17:List (Nat × Pat):=[(0,(.hole y5))]
abbrev sl_18:List (Nat × Pat):=[(0,(.hole (.slice y5)))]
abbrev sl_19:List (Nat × Pat):=[(0,(.hole y0)),(1,(.hole (.int .i64))),(2,(.hole (.int .i64)))]
abbrev sl_20:List (Nat × Pat):=[(0,(.hole y5)),(1,(.ptr 0 [])),(2,(.ptr 1 [])),(3,(.ptr 2 []))]
abbrev sl_21:List (Nat × Pat):=[(0,(.hole (.slice y5))),(1,(.fn 110 .nil (.cons (.ptr 0 []) (.cons (.ptr 1 []) (.cons (.ptr 2 []) .nil)))))]
abbrev sl_22:List (Nat × Pat):=[(0,(.hole (.slice y5))),(1,(.fn 115 .nil (.cons (.ptr 0 []) (.cons (.ptr 1 []) (.cons (.ptr 2 []) .nil)))))]
abbrev sl_23:List (Nat × Pat):=[(0,(.hole (.slice y5))),(1,(.hole (.int .i64)))]
abbrev sl_24:List (Nat × Pat):=[(0,(.hole (.slice y4))),(1,(.hole y4))]
abbrev sl_25:List (Nat × Pat):=[(0,(.ptr 0 [])),(1,(.hole (.int .i64)))]
abbrev sl_26:List (Nat × Pat):=[(0,(.ptr 0 [])),(1,(.hole y4)),(2,(.hole y5))]
abbrev sl_27:List (Nat × Pat):=[(0,(.hole y40)),(1,(.hole y5))]
abbrev sl_28:List (Nat × Pat):=[(0,(.hole y40)),(1,(.hole y30)),(2,(.hole (.int .i64)))]
abbrev sl_29:List (Nat × Pat):=[(0,(.ptr 0 [])),(1,(.hole y5)),(2,(.hole (.int .i64))),(3,(.hole .bool))]
abbrev sl_30:List (Nat × Pat):=[(0,(.hole y23)),(1,(.hole y5))]
abbrev sl_31:List (Nat × Pat):=[(0,(.hole y23)),(1,(.hole (.int .i64))),(2,(.hole (.int .i64)))]
abbrev sl_32:List (Nat × Pat):=[(1,(.ptr 0 [])),(2,(.ptr 1 [])),(3,(.sl 2)),(23,(.hole (.slice y9))),(24,(.hole (.int .i64))),(25,(.hole (.int .i64)))]
abbrev sl_33:List (Nat × Pat):=[(1,(.ptr 0 [])),(2,(.ptr 1 [])),(3,(.sl 2)),(6,(.sl 3)),(48,(.hole y10)),(49,(.hole (.int .i64))),(50,(.hole (.int .i64)))]
abbrev sl_35:List (Nat × Pat):=[(4,(.hole .bool))]
abbrev Zhz:Shape:={ sl:=sl_0,bl:=[],ts:=ts_0,pin:=0 }
abbrev Zll:Shape:={ sl:=sl_1,bl:=[],ts:=ts_1,pin:=0 }
def Z48 (x:T4):Option (Bool) :=
 bif (decide (x.1 ≥ x.2.1)) then
 some (decide (x.1 ≤ x.2.2))
 else
 some false
abbrev Zp7:=Spec.shp Zhz Zll Z48
def Zc1:Ctx:={ tb:=mkTb T2.tbl,fx:=[],sum:=[],nt:=15,pin:=0,nr:=true,ys:=[] }
theorem Z49:Sound Tryz.prog 191 (Zp7) :=
 Sound.shp (C:=Zc1) (fn:=Tryz.f191) (by kernel_rfl) (c:=bodyOf Tryz.f191) (by kernel_rfl) (by decide) (ctxOK mixed tbl_ok rfl trivial trivial) (SumOK.of trivial) (by kernel_rfl) Zhz Zll rfl (by decide) (by decide) rfl (by decide) rfl Z48 (fun x=>by kernel_rfl)
abbrev Zi8:Shape:={ sl:=sl_2,bl:=[],ts:=ts_2,pin:=0 }
abbrev Zlu:Shape:={ sl:=sl_1,bl:=[],ts:=ts_1,pin:=0 }
def Z4p (x:(Int)):Option (Bool) :=
 (Z48 (x,(Int.negSucc 0),(3:Int))).bind fun r14 =>
 some (Bool.not r14)
abbrev Zpg:=Spec.shp Zi8 Zlu Z4p
def Zca:Ctx:={ tb:=mkTb T2.tbl,fx:=[(191,[],Zp7)],sum:=[],nt:=6,pin:=0,nr:=true,ys:=[] }
theorem Z4q:Sound Tryz.prog 192 (Zpg) :=
 Sound.shp (C:=Zca) (fn:=Tryz.f192) (by kernel_rfl) (c:=bodyOf Tryz.f192) (by kernel_rfl) (by decide) (ctxOK mixed tbl_ok rfl ⟨Z49,trivial⟩ trivial) (SumOK.of trivial) (by kernel_rfl) Zi8 Zlu rfl (by decide) (by decide) rfl (by decide) rfl Z4p (fun x=>by kernel_rfl)
abbrev Zfu:Shape:={ sl:=[(0,(.hole y0)),(1,(.fn 192 .nil .nil)),(7,(.hole (.int .i64))),(8,(.hole (.int .i64)))],bl:=[],ts:=ts_3,pin:=0 }
abbrev Zev:List (ETag × Shape):=[(.ret,{ sl:=sl_3,bl:=[],ts:=ts_2,pin:=0 }),(.exit 0,{ sl:=[],bl:=[],ts:=[],pin:=0 })]
def Z97 (x:T9):Option (T9 ⊕ ((Int) ⊕ Unit)) :=
 bif (decide (x.2.2 < x.2.1)) then
 bif (inb x.2.2 (List.length x.1)) then
 (Z4p (getAt (0:Int) x.1 (toN x.2.2))).bind fun r13 =>
 bif r13 then
 some (.inr (.inl x.2.2))
 else
 some (.inl (x.1,x.2.1,(IntKind.wrap .i64 (x.2.2+(1:Int)))))
 else
 none
 else
 some (.inr (.inr ()))
def Zdm:Ctx:={ tb:=mkTb T2.tbl,fx:=[(192,[],Zpg)],sum:=[],nt:=19,pin:=0,nr:=true,ys:=[] }
theorem Z98:CSound Tryz.prog ⟨19,0,true⟩ (.loop (loopOf 3 Tryz.f140)) (Yb0 Zfu Zev (loop Z97)) :=
 Y8i (C:=Zdm) (ctxOK mixed tbl_ok rfl ⟨Z4q,trivial⟩ trivial) (SumOK.of trivial) Zfu Zev rfl rfl Z97 (fun x=>by kernel_rfl)
abbrev Zj8:Shape:={ sl:=[(0,(.hole y0)),(1,(.fn 192 .nil .nil))],bl:=[],ts:=[y0],pin:=0 }
abbrev Zmu:Shape:={ sl:=sl_2,bl:=[],ts:=ts_2,pin:=0 }
def Z6q (x:(List Int)):Option (Int) :=
 (loop Z97 (x,(((List.length x):Nat):Int),(0:Int))).bind fun r12 =>
 match r12 with
 | .inl y13 =>
 some y13
 | .inr y13 =>
 some (Int.negSucc 0)
abbrev Zqf:=Spec.shp Zj8 Zmu Z6q
def Zdl:Ctx:={ tb:=mkTb T2.tbl,fx:=[(192,[],Zpg)],sum:=[(0,3,Yb0 Zfu Zev (loop Z97))],nt:=19,pin:=0,nr:=true,ys:=[] }
theorem Z6r:Sound Tryz.prog 140 (Zqf) :=
 Sound.shp (C:=Zdl) (fn:=Tryz.f140) (by kernel_rfl) (c:=bodyOf Tryz.f140) (by kernel_rfl) (by decide) (ctxOK mixed tbl_ok rfl ⟨Z4q,trivial⟩ trivial) (SumOK.of ⟨(Yb2 (d:=.loop (loopOf 3 Tryz.f140)) (by kernel_rfl) Z98),trivial⟩) (by kernel_rfl) Zj8 Zmu rfl (by decide) (by decide) rfl (by decide) rfl Z6q (fun x=>by kernel_rfl)
abbrev Zix:Shape:={ sl:=[(0,(.hole y0)),(1,(.fn 192 .nil .nil))],bl:=[],ts:=[y0],pin:=0 }
abbrev Zmj:Shape:={ sl:=sl_1,bl:=[],ts:=ts_1,pin:=0 }
def Z64 (x:(List Int)):Option (Bool) :=
 (Z6q x).bind fun r11 =>
 some (decide (r11 ≥ (0:Int)))
abbrev Zq4:=Spec.shp Zix Zmj Z64
def Zd1:Ctx:={ tb:=mkTb T2.tbl,fx:=[(140,[192],Zqf)],sum:=[],nt:=9,pin:=0,nr:=true,ys:=[] }
theorem Z65:Sound Tryz.prog 86 (Zq4) :=
 Sound.shp (C:=Zd1) (fn:=Tryz.f86) (by kernel_rfl) (c:=bodyOf Tryz.f86) (by kernel_rfl) (by decide) (ctxOK mixed tbl_ok rfl ⟨Z6r,trivial⟩ trivial) (SumOK.of trivial) (by kernel_rfl) Zix Zmj rfl (by decide) (by decide) rfl (by decide) rfl Z64 (fun x=>by kernel_rfl)
abbrev Zi9:Shape:={ sl:=[(0,(.hole y2)),(1,(.ptr 0 []))],bl:=bl_0,ts:=[y2,y39],pin:=0 }
abbrev Zlv:Shape:={ sl:=sl_1,bl:=bl_0,ts:=[.bool,y39],pin:=1 }
def Z4r (x:(T0 × T47)):Option (Bool × T47) :=
 (Z48 (x.1.2,(0:Int),(IntKind.wrap .i64 ((((List.length x.2.1):Nat):Int) - (1:Int))))).bind fun r16 =>
 some ((Bool.not r16),x.2)
abbrev Zph:=Spec.shp Zi9 Zlv Z4r
def Zcb:Ctx:={ tb:=mkTb T2.tbl,fx:=[(191,[],Zp7)],sum:=[],nt:=12,pin:=1,nr:=true,ys:=[] }
theorem Z4s:Sound Tryz.prog 194 (Zph) :=
 Sound.shp (C:=Zcb) (fn:=Tryz.f194) (by kernel_rfl) (c:=bodyOf Tryz.f194) (by kernel_rfl) (by decide) (ctxOK mixed tbl_ok rfl ⟨Z49,trivial⟩ trivial) (SumOK.of trivial) (by kernel_rfl) Zi9 Zlv rfl (by decide) (by decide) rfl (by decide) rfl Z4r (fun x=>by kernel_rfl)
abbrev Zfm:Shape:={ sl:=[(0,(.hole (.slice y2))),(1,(.fn 194 .nil (.cons (.ptr 0 []) .nil))),(7,(.hole (.int .i64))),(8,(.hole (.int .i64)))],bl:=bl_0,ts:=[(.slice y2),(.int .i64),(.int .i64),y39],pin:=1 }
abbrev Zen:List (ETag × Shape):=[(.ret,{ sl:=sl_3,bl:=bl_0,ts:=[(.int .i64),y39],pin:=1 }),(.exit 0,{ sl:=[],bl:=bl_0,ts:=[y39],pin:=1 })]
def Z8r (x:(List T0 × Int × Int × T47)):Option ((List T0 × Int × Int × T47) ⊕ ((Int × T47) ⊕ (T47))) :=
 bif (decide (x.2.2.1 < x.2.1)) then
 bif (inb x.2.2.1 (List.length x.1)) then
 (Z4r ((getAt (false,(0:Int)) x.1 (toN x.2.2.1)),x.2.2.2)).bind fun r15 =>
 bif r15.1 then
 some (.inr (.inl (x.2.2.1,r15.2)))
 else
 some (.inl (x.1,x.2.1,(IntKind.wrap .i64 (x.2.2.1+(1:Int))),r15.2))
 else
 none
 else
 some (.inr (.inr x.2.2.2))
def Zd6:Ctx:={ tb:=mkTb T2.tbl,fx:=[(194,[],Zph)],sum:=[],nt:=19,pin:=1,nr:=true,ys:=[] }
theorem Z8s:CSound Tryz.prog ⟨19,1,true⟩ (.loop (loopOf 3 Tryz.f222)) (Yb0 Zfm Zen (loop Z8r)) :=
 Y8i (C:=Zd6) (ctxOK mixed tbl_ok rfl ⟨Z4s,trivial⟩ trivial) (SumOK.of trivial) Zfm Zen rfl rfl Z8r (fun x=>by kernel_rfl)
abbrev Zj0:Shape:={ sl:=sl_4,bl:=bl_0,ts:=[(.slice y2),y39],pin:=0 }
abbrev Zmm:Shape:={ sl:=sl_2,bl:=bl_0,ts:=[(.int .i64),y39],pin:=1 }
def Z6a (x:(List T0 × T47)):Option (Int × T47) :=
 (loop Z8r (x.1,(((List.length x.1):Nat):Int),(0:Int),x.2)).bind fun r14 =>
 match r14 with
 | .inl y15 =>
 some (y15.1,y15.2)
 | .inr y15 =>
 some ((Int.negSucc 0),y15)
abbrev Zq7:=Spec.shp Zj0 Zmm Z6a
def Zd5:Ctx:={ tb:=mkTb T2.tbl,fx:=[(194,[],Zph)],sum:=[(0,3,Yb0 Zfm Zen (loop Z8r))],nt:=19,pin:=1,nr:=true,ys:=[] }
theorem Z6b:Sound Tryz.prog 222 (Zq7) :=
 Sound.shp (C:=Zd5) (fn:=Tryz.f222) (by kernel_rfl) (c:=bodyOf Tryz.f222) (by kernel_rfl) (by decide) (ctxOK mixed tbl_ok rfl ⟨Z4s,trivial⟩ trivial) (SumOK.of ⟨(Yb2 (d:=.loop (loopOf 3 Tryz.f222)) (by kernel_rfl) Z8s),trivial⟩) (by kernel_rfl) Zj0 Zmm rfl (by decide) (by decide) rfl (by decide) rfl Z6a (fun x=>by kernel_rfl)
abbrev Zir:Shape:={ sl:=sl_4,bl:=bl_0,ts:=[(.slice y2),y39],pin:=0 }
abbrev Zmd:Shape:={ sl:=sl_1,bl:=bl_0,ts:=[.bool,y39],pin:=1 }
def Z5s (x:(List T0 × T47)):Option (Bool × T47) :=
 (Z6a (x.1,x.2)).bind fun r13 =>
 some ((decide (r13.1 ≥ (0:Int))),r13.2)
abbrev Zpy:=Spec.shp Zir Zmd Z5s
def Zcv:Ctx:={ tb:=mkTb T2.tbl,fx:=[(222,[194],Zq7)],sum:=[],nt:=9,pin:=1,nr:=true,ys:=[] }
theorem Z5t:Sound Tryz.prog 193 (Zpy) :=
 Sound.shp (C:=Zcv) (fn:=Tryz.f193) (by kernel_rfl) (c:=bodyOf Tryz.f193) (by kernel_rfl) (by decide) (ctxOK mixed tbl_ok rfl ⟨Z6b,trivial⟩ trivial) (SumOK.of trivial) (by kernel_rfl) Zir Zmd rfl (by decide) (by decide) rfl (by decide) rfl Z5s (fun x=>by kernel_rfl)
abbrev Zfj:Shape:={ sl:=[(1,(.ptr 0 [])),(45,(.hole (.slice y9))),(46,(.hole (.int .i64))),(47,(.hole (.int .i64)))],bl:=bl_0,ts:=ts_4,pin:=0 }
abbrev Zek:List (ETag × Shape):=[(.ret,{ sl:=sl_5,bl:=[],ts:=ts_5,pin:=0 }),(.exit 0,{ sl:=[],bl:=[],ts:=[],pin:=0 })]
def Z8l (x:T53):Option (T53 ⊕ ((Int × Int) ⊕ Unit)) :=
 bif (decide (x.2.2.1 < x.2.1)) then
 bif (inb x.2.2.1 (List.length x.1)) then
 bif (decide ((((List.length (getAt (([]:List T0),false) x.1 (toN x.2.2.1)).1):Nat):Int) > (4:Int))) then
 some (.inr (.inl (x.2.2.1,(2:Int))))
 else
 (Z5s ((getAt (([]:List T0),false) x.1 (toN x.2.2.1)).1,x.2.2.2)).bind fun r12 =>
 bif r12.1 then
 some (.inr (.inl (x.2.2.1,(3:Int))))
 else
 some (.inl (x.1,x.2.1,(IntKind.wrap .i64 (x.2.2.1+(1:Int))),r12.2))
 else
 none
 else
 some (.inr (.inr ()))
def Zcc:Ctx:={ tb:=mkTb T2.tbl,fx:=[(191,[],Zp7),(86,[192],Zq4),(193,[194],Zpy)],sum:=[],nt:=65,pin:=0,nr:=true,ys:=[] }
theorem Z8m:CSound Tryz.prog ⟨65,0,true⟩ (.loop (loopOf 8 Tryz.f154)) (Yb0 Zfj Zek (loop Z8l)) :=
 Y8i (C:=Zcc) (ctxOK mixed tbl_ok rfl ⟨Z49,Z65,Z5t,trivial⟩ trivial) (SumOK.of trivial) Zfj Zek rfl rfl Z8l (fun x=>by kernel_rfl)
abbrev Zi7:Shape:={ sl:=sl_6,bl:=[],ts:=[y39],pin:=0 }
abbrev Zlt:Shape:={ sl:=sl_7,bl:=[],ts:=ts_5,pin:=0 }
def Z4o (x:(T47)):Option (Int × Int) :=
 bif (decide ((((List.length x.1):Nat):Int) ≤ (4:Int))) then
 (Z48 (x.2.1,(0:Int),(2:Int))).bind fun r6 =>
 bif r6 then
 (Z48 (x.2.2.1,(0:Int),(2:Int))).bind fun r7 =>
 bif r7 then
 (Z48 (x.2.2.2.1,(0:Int),(4:Int))).bind fun r8 =>
 bif (Bool.not r8) then
 some ((Int.negSucc 0),(2:Int))
 else
 bif (decide ((((List.length x.2.2.2.2.1):Nat):Int) > (4:Int))) then
 some ((Int.negSucc 0),(2:Int))
 else
 (Z48 ((((List.length x.2.2.2.2.2):Nat):Int),(1:Int),(6:Int))).bind fun r9 =>
 bif (Bool.not r9) then
 some ((Int.negSucc 0),(2:Int))
 else
 (Z64 x.1).bind fun r10 =>
 bif r10 then
 some ((Int.negSucc 0),(3:Int))
 else
 (loop Z8l (x.2.2.2.2.1,(((List.length x.2.2.2.2.1):Nat):Int),(0:Int),x)).bind fun r11 =>
 match r11 with
 | .inl y12 =>
 some (y12.1,y12.2)
 | .inr y12 =>
 some ((Int.negSucc 0),(0:Int))
 else
 some ((Int.negSucc 0),(2:Int))
 else
 some ((Int.negSucc 0),(2:Int))
 else
 some ((Int.negSucc 0),(2:Int))
abbrev Zpf:=Spec.shp Zi7 Zlt Z4o
def Zc9:Ctx:={ tb:=mkTb T2.tbl,fx:=[(191,[],Zp7),(86,[192],Zq4),(193,[194],Zpy)],sum:=[(0,8,Yb0 Zfj Zek (loop Z8l))],nt:=65,pin:=0,nr:=true,ys:=[] }
theorem Z4t:Sound Tryz.prog 154 (Zpf) :=
 Sound.shp (C:=Zc9) (fn:=Tryz.f154) (by kernel_rfl) (c:=bodyOf Tryz.f154) (by kernel_rfl) (by decide) (ctxOK mixed tbl_ok rfl ⟨Z49,Z65,Z5t,trivial⟩ trivial) (SumOK.of ⟨(Yb2 (d:=.loop (loopOf 8 Tryz.f154)) (by kernel_rfl) Z8m),trivial⟩) (by kernel_rfl) Zi7 Zlt rfl (by decide) (by decide) rfl (by decide) rfl Z4o (fun x=>by kernel_rfl)
abbrev Zi4:Shape:={ sl:=[],bl:=[],ts:=[],pin:=0 }
abbrev Zlq:Shape:={ sl:=[(0,(.pr (.one (.fn 223 .nil .nil)) (.pr (.one (.fn 224 .nil .nil)) (.pr (.one (.fn 224 .nil .nil)) (.pr (.one (.fn 224 .nil .nil)) (.pr (.one (.fn 225 .nil .nil)) (.pr (.one (.fn 226 .nil .nil)) (.pr (.one (.fn 226 .nil .nil)) (.pr (.one (.fn 227 .nil .nil)) (.pr (.one (.fn 227 .nil .nil)) (.pr (.one (.fn 228 .nil .nil)) (.pr (.one (.fn 229 .nil .nil)) (.pr (.one (.fn 229 .nil .nil)) (.pr (.one (.fn 230 .nil .nil)) (.one (.fn 230 .nil .nil))))))))))))))))],bl:=[],ts:=[],pin:=0 }
def Z4i (x:Unit):Option Unit :=
 some ()
abbrev Zpc:=Spec.shp Zi4 Zlq Z4i
def Zc6:Ctx:={ tb:=mkTb T2.tbl,fx:=[],sum:=[],nt:=16,pin:=0,nr:=true,ys:=[] }
theorem Z4j:Sound Tryz.prog 195 (Zpc) :=
 Sound.shp (C:=Zc6) (fn:=Tryz.f195) (by kernel_rfl) (c:=bodyOf Tryz.f195) (by kernel_rfl) (by decide) (ctxOK mixed tbl_ok rfl trivial trivial) (SumOK.of trivial) (by kernel_rfl) Zi4 Zlq rfl (by decide) (by decide) rfl (by decide) rfl Z4i (fun x=>by kernel_rfl)
abbrev Zi2:Shape:={ sl:=sl_8,bl:=[],ts:=ts_6,pin:=0 }
abbrev Zlo:Shape:={ sl:=sl_2,bl:=[],ts:=ts_2,pin:=0 }
def Z4e (x:T50):Option (Int) :=
 some (1:Int)
abbrev Zpa:=Spec.shp Zi2 Zlo Z4e
def Zc4:Ctx:={ tb:=mkTb T2.tbl,fx:=[],sum:=[],nt:=5,pin:=0,nr:=true,ys:=[] }
theorem Z4f:Sound Tryz.prog 223 (Zpa) :=
 Sound.shp (C:=Zc4) (fn:=Tryz.f223) (by kernel_rfl) (c:=bodyOf Tryz.f223) (by kernel_rfl) (by decide) (ctxOK mixed tbl_ok rfl trivial trivial) (SumOK.of trivial) (by kernel_rfl) Zi2 Zlo rfl (by decide) (by decide) rfl (by decide) rfl Z4e (fun x=>by kernel_rfl)
abbrev Zhy:Shape:={ sl:=sl_8,bl:=[],ts:=ts_6,pin:=0 }
abbrev Zlk:Shape:={ sl:=sl_2,bl:=[],ts:=ts_2,pin:=0 }
def Z46 (x:T50):Option (Int) :=
 some (((List.length x.1.1):Nat):Int)
abbrev Zp6:=Spec.shp Zhy Zlk Z46
def Zc0:Ctx:={ tb:=mkTb T2.tbl,fx:=[],sum:=[],nt:=8,pin:=0,nr:=true,ys:=[] }
theorem Z47:Sound Tryz.prog 224 (Zp6) :=
 Sound.shp (C:=Zc0) (fn:=Tryz.f224) (by kernel_rfl) (c:=bodyOf Tryz.f224) (by kernel_rfl) (by decide) (ctxOK mixed tbl_ok rfl trivial trivial) (SumOK.of trivial) (by kernel_rfl) Zhy Zlk rfl (by decide) (by decide) rfl (by decide) rfl Z46 (fun x=>by kernel_rfl)
abbrev Zi6:Shape:={ sl:=sl_8,bl:=[],ts:=ts_6,pin:=0 }
abbrev Zls:Shape:={ sl:=sl_2,bl:=[],ts:=ts_2,pin:=0 }
def Z4m (x:T50):Option (Int) :=
 some (((List.length x.1.2.2.2.2.1):Nat):Int)
abbrev Zpe:=Spec.shp Zi6 Zls Z4m
def Zc8:Ctx:={ tb:=mkTb T2.tbl,fx:=[],sum:=[],nt:=8,pin:=0,nr:=true,ys:=[] }
theorem Z4n:Sound Tryz.prog 225 (Zpe) :=
 Sound.shp (C:=Zc8) (fn:=Tryz.f225) (by kernel_rfl) (c:=bodyOf Tryz.f225) (by kernel_rfl) (by decide) (ctxOK mixed tbl_ok rfl trivial trivial) (SumOK.of trivial) (by kernel_rfl) Zi6 Zls rfl (by decide) (by decide) rfl (by decide) rfl Z4m (fun x=>by kernel_rfl)
abbrev Zi1:Shape:={ sl:=sl_8,bl:=[],ts:=ts_6,pin:=0 }
abbrev Zln:Shape:={ sl:=sl_2,bl:=[],ts:=ts_2,pin:=0 }
def Z4c (x:T50):Option (Int) :=
 some x.1.2.1
abbrev Zp9:=Spec.shp Zi1 Zln Z4c
def Zc3:Ctx:={ tb:=mkTb T2.tbl,fx:=[],sum:=[],nt:=7,pin:=0,nr:=true,ys:=[] }
theorem Z4d:Sound Tryz.prog 226 (Zp9) :=
 Sound.shp (C:=Zc3) (fn:=Tryz.f226) (by kernel_rfl) (c:=bodyOf Tryz.f226) (by kernel_rfl) (by decide) (ctxOK mixed tbl_ok rfl trivial trivial) (SumOK.of trivial) (by kernel_rfl) Zi1 Zln rfl (by decide) (by decide) rfl (by decide) rfl Z4c (fun x=>by kernel_rfl)
abbrev Zi3:Shape:={ sl:=sl_8,bl:=[],ts:=ts_6,pin:=0 }
abbrev Zlp:Shape:={ sl:=sl_2,bl:=[],ts:=ts_2,pin:=0 }
def Z4g (x:T50):Option (Int) :=
 some x.1.2.2.1
abbrev Zpb:=Spec.shp Zi3 Zlp Z4g
def Zc5:Ctx:={ tb:=mkTb T2.tbl,fx:=[],sum:=[],nt:=7,pin:=0,nr:=true,ys:=[] }
theorem Z4h:Sound Tryz.prog 227 (Zpb) :=
 Sound.shp (C:=Zc5) (fn:=Tryz.f227) (by kernel_rfl) (c:=bodyOf Tryz.f227) (by kernel_rfl) (by decide) (ctxOK mixed tbl_ok rfl trivial trivial) (SumOK.of trivial) (by kernel_rfl) Zi3 Zlp rfl (by decide) (by decide) rfl (by decide) rfl Z4g (fun x=>by kernel_rfl)
abbrev Zhx:Shape:={ sl:=sl_8,bl:=[],ts:=ts_6,pin:=0 }
abbrev Zlj:Shape:={ sl:=sl_2,bl:=[],ts:=ts_2,pin:=0 }
def Z44 (x:T50):Option (Int) :=
 some (((List.length x.1.2.2.2.2.2):Nat):Int)
abbrev Zp5:=Spec.shp Zhx Zlj Z44
def Zbz:Ctx:={ tb:=mkTb T2.tbl,fx:=[],sum:=[],nt:=8,pin:=0,nr:=true,ys:=[] }
theorem Z45:Sound Tryz.prog 228 (Zp5) :=
 Sound.shp (C:=Zbz) (fn:=Tryz.f228) (by kernel_rfl) (c:=bodyOf Tryz.f228) (by kernel_rfl) (by decide) (ctxOK mixed tbl_ok rfl trivial trivial) (SumOK.of trivial) (by kernel_rfl) Zhx Zlj rfl (by decide) (by decide) rfl (by decide) rfl Z44 (fun x=>by kernel_rfl)
abbrev Zia:Shape:={ sl:=sl_8,bl:=[],ts:=ts_6,pin:=0 }
abbrev Zlw:Shape:={ sl:=sl_2,bl:=[],ts:=ts_2,pin:=0 }
def Z4u (x:T50):Option (Int) :=
 some x.1.2.2.2.1
abbrev Zpi:=Spec.shp Zia Zlw Z4u
def Zcd:Ctx:={ tb:=mkTb T2.tbl,fx:=[],sum:=[],nt:=7,pin:=0,nr:=true,ys:=[] }
theorem Z4v:Sound Tryz.prog 229 (Zpi) :=
 Sound.shp (C:=Zcd) (fn:=Tryz.f229) (by kernel_rfl) (c:=bodyOf Tryz.f229) (by kernel_rfl) (by decide) (ctxOK mixed tbl_ok rfl trivial trivial) (SumOK.of trivial) (by kernel_rfl) Zia Zlw rfl (by decide) (by decide) rfl (by decide) rfl Z4u (fun x=>by kernel_rfl)
abbrev Zi5:Shape:={ sl:=sl_8,bl:=[],ts:=ts_6,pin:=0 }
abbrev Zlr:Shape:={ sl:=sl_2,bl:=[],ts:=ts_2,pin:=0 }
def Z4k (x:T50):Option (Int) :=
 some (IntKind.wrap .i64 ((((List.length x.2):Nat):Int)+(1:Int)))
abbrev Zpd:=Spec.shp Zi5 Zlr Z4k
def Zc7:Ctx:={ tb:=mkTb T2.tbl,fx:=[],sum:=[],nt:=8,pin:=0,nr:=true,ys:=[] }
theorem Z4l:Sound Tryz.prog 230 (Zpd) :=
 Sound.shp (C:=Zc7) (fn:=Tryz.f230) (by kernel_rfl) (c:=bodyOf Tryz.f230) (by kernel_rfl) (by decide) (ctxOK mixed tbl_ok rfl trivial trivial) (SumOK.of trivial) (by kernel_rfl) Zi5 Zlr rfl (by decide) (by decide) rfl (by decide) rfl Z4k (fun x=>by kernel_rfl)
abbrev Zi0:Shape:={ sl:=[(0,(.hole y39)),(1,(.hole (.slice y5))),(2,(.hole y5))],bl:=[],ts:=[y39,(.slice y5),y5],pin:=0 }
abbrev Zlm:Shape:={ sl:=sl_2,bl:=[],ts:=ts_2,pin:=0 }
def Z4a (x:(T47 × List (T7) × T7)):Option (Int) :=
 (Z48 (x.2.2.1,(0:Int),(13:Int))).bind fun r9 =>
 bif (Bool.not r9) then
 some (11:Int)
 else
 bif (x.2.2.1 == (7:Int)) then
 (Z4i ()).bind fun r10 =>
 bif (x.2.2.1 == (((0:Nat):Nat):Int)) then
 (Z4e (x.1,x.2.1)).bind fun r11 =>
 (Z48 (x.2.2.2.1,(0:Int),(IntKind.wrap .i64 (r11 - (1:Int))))).bind fun r12 =>
 bif (Bool.not r12) then
 some (3:Int)
 else
 (Z48 (x.2.2.2.2,(0:Int),(((List.length x.2.1):Nat):Int))).bind fun r13 =>
 bif (Bool.not r13) then
 some (3:Int)
 else
 some (0:Int)
 else
 bif (x.2.2.1 == ((((0:Nat)+(1:Nat)):Nat):Int)) then
 (Z46 (x.1,x.2.1)).bind fun r11 =>
 (Z48 (x.2.2.2.1,(0:Int),(IntKind.wrap .i64 (r11 - (1:Int))))).bind fun r12 =>
 bif (Bool.not r12) then
 some (3:Int)
 else
 (Z48 (x.2.2.2.2,(0:Int),(((List.length x.2.1):Nat):Int))).bind fun r13 =>
 bif (Bool.not r13) then
 some (3:Int)
 else
 some (0:Int)
 else
 bif (x.2.2.1 == (((((0:Nat)+(1:Nat))+(1:Nat)):Nat):Int)) then
 (Z46 (x.1,x.2.1)).bind fun r11 =>
 (Z48 (x.2.2.2.1,(0:Int),(IntKind.wrap .i64 (r11 - (1:Int))))).bind fun r12 =>
 bif (Bool.not r12) then
 some (3:Int)
 else
 (Z48 (x.2.2.2.2,(0:Int),(((List.length x.2.1):Nat):Int))).bind fun r13 =>
 bif (Bool.not r13) then
 some (3:Int)
 else
 some (0:Int)
 else
 bif (x.2.2.1 == ((((((0:Nat)+(1:Nat))+(1:Nat))+(1:Nat)):Nat):Int)) then
 (Z46 (x.1,x.2.1)).bind fun r11 =>
 (Z48 (x.2.2.2.1,(0:Int),(IntKind.wrap .i64 (r11 - (1:Int))))).bind fun r12 =>
 bif (Bool.not r12) then
 some (3:Int)
 else
 (Z48 (x.2.2.2.2,(0:Int),(((List.length x.2.1):Nat):Int))).bind fun r13 =>
 bif (Bool.not r13) then
 some (3:Int)
 else
 some (0:Int)
 else
 bif (x.2.2.1 == (((((((0:Nat)+(1:Nat))+(1:Nat))+(1:Nat))+(1:Nat)):Nat):Int)) then
 (Z4m (x.1,x.2.1)).bind fun r11 =>
 (Z48 (x.2.2.2.1,(0:Int),(IntKind.wrap .i64 (r11 - (1:Int))))).bind fun r12 =>
 bif (Bool.not r12) then
 some (3:Int)
 else
 (Z48 (x.2.2.2.2,(0:Int),(((List.length x.2.1):Nat):Int))).bind fun r13 =>
 bif (Bool.not r13) then
 some (3:Int)
 else
 some (0:Int)
 else
 bif (x.2.2.1 == ((((((((0:Nat)+(1:Nat))+(1:Nat))+(1:Nat))+(1:Nat))+(1:Nat)):Nat):Int)) then
 (Z4c (x.1,x.2.1)).bind fun r11 =>
 (Z48 (x.2.2.2.1,(0:Int),(IntKind.wrap .i64 (r11 - (1:Int))))).bind fun r12 =>
 bif (Bool.not r12) then
 some (3:Int)
 else
 (Z48 (x.2.2.2.2,(0:Int),(((List.length x.2.1):Nat):Int))).bind fun r13 =>
 bif (Bool.not r13) then
 some (3:Int)
 else
 some (0:Int)
 else
 bif (x.2.2.1 == (((((((((0:Nat)+(1:Nat))+(1:Nat))+(1:Nat))+(1:Nat))+(1:Nat))+(1:Nat)):Nat):Int)) then
 (Z4c (x.1,x.2.1)).bind fun r11 =>
 (Z48 (x.2.2.2.1,(0:Int),(IntKind.wrap .i64 (r11 - (1:Int))))).bind fun r12 =>
 bif (Bool.not r12) then
 some (3:Int)
 else
 (Z48 (x.2.2.2.2,(0:Int),(((List.length x.2.1):Nat):Int))).bind fun r13 =>
 bif (Bool.not r13) then
 some (3:Int)
 else
 some (0:Int)
 else
 bif (x.2.2.1 == ((((((((((0:Nat)+(1:Nat))+(1:Nat))+(1:Nat))+(1:Nat))+(1:Nat))+(1:Nat))+(1:Nat)):Nat):Int)) then
 (Z4g (x.1,x.2.1)).bind fun r11 =>
 (Z48 (x.2.2.2.1,(0:Int),(IntKind.wrap .i64 (r11 - (1:Int))))).bind fun r12 =>
 bif (Bool.not r12) then
 some (3:Int)
 else
 (Z48 (x.2.2.2.2,(0:Int),(((List.length x.2.1):Nat):Int))).bind fun r13 =>
 bif (Bool.not r13) then
 some (3:Int)
 else
 some (0:Int)
 else
 bif (x.2.2.1 == (((((((((((0:Nat)+(1:Nat))+(1:Nat))+(1:Nat))+(1:Nat))+(1:Nat))+(1:Nat))+(1:Nat))+(1:Nat)):Nat):Int)) then
 (Z4g (x.1,x.2.1)).bind fun r11 =>
 (Z48 (x.2.2.2.1,(0:Int),(IntKind.wrap .i64 (r11 - (1:Int))))).bind fun r12 =>
 bif (Bool.not r12) then
 some (3:Int)
 else
 (Z48 (x.2.2.2.2,(0:Int),(((List.length x.2.1):Nat):Int))).bind fun r13 =>
 bif (Bool.not r13) then
 some (3:Int)
 else
 some (0:Int)
 else
 bif (x.2.2.1 == ((((((((((((0:Nat)+(1:Nat))+(1:Nat))+(1:Nat))+(1:Nat))+(1:Nat))+(1:Nat))+(1:Nat))+(1:Nat))+(1:Nat)):Nat):Int)) then
 (Z44 (x.1,x.2.1)).bind fun r11 =>
 (Z48 (x.2.2.2.1,(0:Int),(IntKind.wrap .i64 (r11 - (1:Int))))).bind fun r12 =>
 bif (Bool.not r12) then
 some (3:Int)
 else
 (Z48 (x.2.2.2.2,(0:Int),(((List.length x.2.1):Nat):Int))).bind fun r13 =>
 bif (Bool.not r13) then
 some (3:Int)
 else
 some (0:Int)
 else
 bif (x.2.2.1 == (((((((((((((0:Nat)+(1:Nat))+(1:Nat))+(1:Nat))+(1:Nat))+(1:Nat))+(1:Nat))+(1:Nat))+(1:Nat))+(1:Nat))+(1:Nat)):Nat):Int)) then
 (Z4u (x.1,x.2.1)).bind fun r11 =>
 (Z48 (x.2.2.2.1,(0:Int),(IntKind.wrap .i64 (r11 - (1:Int))))).bind fun r12 =>
 bif (Bool.not r12) then
 some (3:Int)
 else
 (Z48 (x.2.2.2.2,(0:Int),(((List.length x.2.1):Nat):Int))).bind fun r13 =>
 bif (Bool.not r13) then
 some (3:Int)
 else
 some (0:Int)
 else
 bif (x.2.2.1 == ((((((((((((((0:Nat)+(1:Nat))+(1:Nat))+(1:Nat))+(1:Nat))+(1:Nat))+(1:Nat))+(1:Nat))+(1:Nat))+(1:Nat))+(1:Nat))+(1:Nat)):Nat):Int)) then
 (Z4u (x.1,x.2.1)).bind fun r11 =>
 (Z48 (x.2.2.2.1,(0:Int),(IntKind.wrap .i64 (r11 - (1:Int))))).bind fun r12 =>
 bif (Bool.not r12) then
 some (3:Int)
 else
 (Z48 (x.2.2.2.2,(0:Int),(((List.length x.2.1):Nat):Int))).bind fun r13 =>
 bif (Bool.not r13) then
 some (3:Int)
 else
 some (0:Int)
 else
 bif (x.2.2.1 == (((((((((((((((0:Nat)+(1:Nat))+(1:Nat))+(1:Nat))+(1:Nat))+(1:Nat))+(1:Nat))+(1:Nat))+(1:Nat))+(1:Nat))+(1:Nat))+(1:Nat))+(1:Nat)):Nat):Int)) then
 (Z4k (x.1,x.2.1)).bind fun r11 =>
 (Z48 (x.2.2.2.1,(0:Int),(IntKind.wrap .i64 (r11 - (1:Int))))).bind fun r12 =>
 bif (Bool.not r12) then
 some (3:Int)
 else
 (Z48 (x.2.2.2.2,(0:Int),(((List.length x.2.1):Nat):Int))).bind fun r13 =>
 bif (Bool.not r13) then
 some (3:Int)
 else
 some (0:Int)
 else
 bif (x.2.2.1 == ((((((((((((((((0:Nat)+(1:Nat))+(1:Nat))+(1:Nat))+(1:Nat))+(1:Nat))+(1:Nat))+(1:Nat))+(1:Nat))+(1:Nat))+(1:Nat))+(1:Nat))+(1:Nat))+(1:Nat)):Nat):Int)) then
 (Z4k (x.1,x.2.1)).bind fun r11 =>
 (Z48 (x.2.2.2.1,(0:Int),(IntKind.wrap .i64 (r11 - (1:Int))))).bind fun r12 =>
 bif (Bool.not r12) then
 some (3:Int)
 else
 (Z48 (x.2.2.2.2,(0:Int),(((List.length x.2.1):Nat):Int))).bind fun r13 =>
 bif (Bool.not r13) then
 some (3:Int)
 else
 some (0:Int)
 else
 none
 else
 (Z4i ()).bind fun r10 =>
 bif (x.2.2.1 == (((0:Nat):Nat):Int)) then
 (Z4e (x.1,x.2.1)).bind fun r11 =>
 (Z48 (x.2.2.2.1,(0:Int),(IntKind.wrap .i64 (r11 - (1:Int))))).bind fun r12 =>
 bif (Bool.not r12) then
 some (3:Int)
 else
 (Z48 (x.2.2.2.2,(0:Int),(0:Int))).bind fun r13 =>
 bif (Bool.not r13) then
 some (3:Int)
 else
 some (0:Int)
 else
 bif (x.2.2.1 == ((((0:Nat)+(1:Nat)):Nat):Int)) then
 (Z46 (x.1,x.2.1)).bind fun r11 =>
 (Z48 (x.2.2.2.1,(0:Int),(IntKind.wrap .i64 (r11 - (1:Int))))).bind fun r12 =>
 bif (Bool.not r12) then
 some (3:Int)
 else
 (Z48 (x.2.2.2.2,(0:Int),(0:Int))).bind fun r13 =>
 bif (Bool.not r13) then
 some (3:Int)
 else
 some (0:Int)
 else
 bif (x.2.2.1 == (((((0:Nat)+(1:Nat))+(1:Nat)):Nat):Int)) then
 (Z46 (x.1,x.2.1)).bind fun r11 =>
 (Z48 (x.2.2.2.1,(0:Int),(IntKind.wrap .i64 (r11 - (1:Int))))).bind fun r12 =>
 bif (Bool.not r12) then
 some (3:Int)
 else
 (Z48 (x.2.2.2.2,(0:Int),(0:Int))).bind fun r13 =>
 bif (Bool.not r13) then
 some (3:Int)
 else
 some (0:Int)
 else
 bif (x.2.2.1 == ((((((0:Nat)+(1:Nat))+(1:Nat))+(1:Nat)):Nat):Int)) then
 (Z46 (x.1,x.2.1)).bind fun r11 =>
 (Z48 (x.2.2.2.1,(0:Int),(IntKind.wrap .i64 (r11 - (1:Int))))).bind fun r12 =>
 bif (Bool.not r12) then
 some (3:Int)
 else
 (Z48 (x.2.2.2.2,(0:Int),(0:Int))).bind fun r13 =>
 bif (Bool.not r13) then
 some (3:Int)
 else
 some (0:Int)
 else
 bif (x.2.2.1 == (((((((0:Nat)+(1:Nat))+(1:Nat))+(1:Nat))+(1:Nat)):Nat):Int)) then
 (Z4m (x.1,x.2.1)).bind fun r11 =>
 (Z48 (x.2.2.2.1,(0:Int),(IntKind.wrap .i64 (r11 - (1:Int))))).bind fun r12 =>
 bif (Bool.not r12) then
 some (3:Int)
 else
 (Z48 (x.2.2.2.2,(0:Int),(0:Int))).bind fun r13 =>
 bif (Bool.not r13) then
 some (3:Int)
 else
 some (0:Int)
 else
 bif (x.2.2.1 == ((((((((0:Nat)+(1:Nat))+(1:Nat))+(1:Nat))+(1:Nat))+(1:Nat)):Nat):Int)) then
 (Z4c (x.1,x.2.1)).bind fun r11 =>
 (Z48 (x.2.2.2.1,(0:Int),(IntKind.wrap .i64 (r11 - (1:Int))))).bind fun r12 =>
 bif (Bool.not r12) then
 some (3:Int)
 else
 (Z48 (x.2.2.2.2,(0:Int),(0:Int))).bind fun r13 =>
 bif (Bool.not r13) then
 some (3:Int)
 else
 some (0:Int)
 else
 bif (x.2.2.1 == (((((((((0:Nat)+(1:Nat))+(1:Nat))+(1:Nat))+(1:Nat))+(1:Nat))+(1:Nat)):Nat):Int)) then
 (Z4c (x.1,x.2.1)).bind fun r11 =>
 (Z48 (x.2.2.2.1,(0:Int),(IntKind.wrap .i64 (r11 - (1:Int))))).bind fun r12 =>
 bif (Bool.not r12) then
 some (3:Int)
 else
 (Z48 (x.2.2.2.2,(0:Int),(0:Int))).bind fun r13 =>
 bif (Bool.not r13) then
 some (3:Int)
 else
 some (0:Int)
 else
 bif (x.2.2.1 == ((((((((((0:Nat)+(1:Nat))+(1:Nat))+(1:Nat))+(1:Nat))+(1:Nat))+(1:Nat))+(1:Nat)):Nat):Int)) then
 (Z4g (x.1,x.2.1)).bind fun r11 =>
 (Z48 (x.2.2.2.1,(0:Int),(IntKind.wrap .i64 (r11 - (1:Int))))).bind fun r12 =>
 bif (Bool.not r12) then
 some (3:Int)
 else
 (Z48 (x.2.2.2.2,(0:Int),(0:Int))).bind fun r13 =>
 bif (Bool.not r13) then
 some (3:Int)
 else
 some (0:Int)
 else
 bif (x.2.2.1 == (((((((((((0:Nat)+(1:Nat))+(1:Nat))+(1:Nat))+(1:Nat))+(1:Nat))+(1:Nat))+(1:Nat))+(1:Nat)):Nat):Int)) then
 (Z4g (x.1,x.2.1)).bind fun r11 =>
 (Z48 (x.2.2.2.1,(0:Int),(IntKind.wrap .i64 (r11 - (1:Int))))).bind fun r12 =>
 bif (Bool.not r12) then
 some (3:Int)
 else
 (Z48 (x.2.2.2.2,(0:Int),(0:Int))).bind fun r13 =>
 bif (Bool.not r13) then
 some (3:Int)
 else
 some (0:Int)
 else
 bif (x.2.2.1 == ((((((((((((0:Nat)+(1:Nat))+(1:Nat))+(1:Nat))+(1:Nat))+(1:Nat))+(1:Nat))+(1:Nat))+(1:Nat))+(1:Nat)):Nat):Int)) then
 (Z44 (x.1,x.2.1)).bind fun r11 =>
 (Z48 (x.2.2.2.1,(0:Int),(IntKind.wrap .i64 (r11 - (1:Int))))).bind fun r12 =>
 bif (Bool.not r12) then
 some (3:Int)
 else
 (Z48 (x.2.2.2.2,(0:Int),(0:Int))).bind fun r13 =>
 bif (Bool.not r13) then
 some (3:Int)
 else
 some (0:Int)
 else
 bif (x.2.2.1 == (((((((((((((0:Nat)+(1:Nat))+(1:Nat))+(1:Nat))+(1:Nat))+(1:Nat))+(1:Nat))+(1:Nat))+(1:Nat))+(1:Nat))+(1:Nat)):Nat):Int)) then
 (Z4u (x.1,x.2.1)).bind fun r11 =>
 (Z48 (x.2.2.2.1,(0:Int),(IntKind.wrap .i64 (r11 - (1:Int))))).bind fun r12 =>
 bif (Bool.not r12) then
 some (3:Int)
 else
 (Z48 (x.2.2.2.2,(0:Int),(0:Int))).bind fun r13 =>
 bif (Bool.not r13) then
 some (3:Int)
 else
 some (0:Int)
 else
 bif (x.2.2.1 == ((((((((((((((0:Nat)+(1:Nat))+(1:Nat))+(1:Nat))+(1:Nat))+(1:Nat))+(1:Nat))+(1:Nat))+(1:Nat))+(1:Nat))+(1:Nat))+(1:Nat)):Nat):Int)) then
 (Z4u (x.1,x.2.1)).bind fun r11 =>
 (Z48 (x.2.2.2.1,(0:Int),(IntKind.wrap .i64 (r11 - (1:Int))))).bind fun r12 =>
 bif (Bool.not r12) then
 some (3:Int)
 else
 (Z48 (x.2.2.2.2,(0:Int),(0:Int))).bind fun r13 =>
 bif (Bool.not r13) then
 some (3:Int)
 else
 some (0:Int)
 else
 bif (x.2.2.1 == (((((((((((((((0:Nat)+(1:Nat))+(1:Nat))+(1:Nat))+(1:Nat))+(1:Nat))+(1:Nat))+(1:Nat))+(1:Nat))+(1:Nat))+(1:Nat))+(1:Nat))+(1:Nat)):Nat):Int)) then
 (Z4k (x.1,x.2.1)).bind fun r11 =>
 (Z48 (x.2.2.2.1,(0:Int),(IntKind.wrap .i64 (r11 - (1:Int))))).bind fun r12 =>
 bif (Bool.not r12) then
 some (3:Int)
 else
 (Z48 (x.2.2.2.2,(0:Int),(0:Int))).bind fun r13 =>
 bif (Bool.not r13) then
 some (3:Int)
 else
 some (0:Int)
 else
 bif (x.2.2.1 == ((((((((((((((((0:Nat)+(1:Nat))+(1:Nat))+(1:Nat))+(1:Nat))+(1:Nat))+(1:Nat))+(1:Nat))+(1:Nat))+(1:Nat))+(1:Nat))+(1:Nat))+(1:Nat))+(1:Nat)):Nat):Int)) then
 (Z4k (x.1,x.2.1)).bind fun r11 =>
 (Z48 (x.2.2.2.1,(0:Int),(IntKind.wrap .i64 (r11 - (1:Int))))).bind fun r12 =>
 bif (Bool.not r12) then
 some (3:Int)
 else
 (Z48 (x.2.2.2.2,(0:Int),(0:Int))).bind fun r13 =>
 bif (Bool.not r13) then
 some (3:Int)
 else
 some (0:Int)
 else
 none
abbrev Zp8:=Spec.shp Zi0 Zlm Z4a
def Zc2:Ctx:={ tb:=mkTb T2.tbl,fx:=[(191,[],Zp7),(195,[],Zpc),(223,[],Zpa),(224,[],Zp6),(225,[],Zpe),(226,[],Zp9),(227,[],Zpb),(228,[],Zp5),(229,[],Zpi),(230,[],Zpd)],sum:=[],nt:=37,pin:=0,nr:=true,ys:=[] }
theorem Z4b:Sound Tryz.prog 155 (Zp8) :=
 Sound.shp (C:=Zc2) (fn:=Tryz.f155) (by kernel_rfl) (c:=bodyOf Tryz.f155) (by kernel_rfl) (by decide) (ctxOK mixed tbl_ok rfl ⟨Z49,Z4j,Z4f,Z47,Z4n,Z4d,Z4h,Z45,Z4v,Z4l,trivial⟩ trivial) (SumOK.of trivial) (by kernel_rfl) Zi0 Zlm rfl (by decide) (by decide) rfl (by decide) rfl Z4a (fun x=>by kernel_rfl)
abbrev Zfh:Shape:={ sl:=sl_9,bl:=bl_0,ts:=ts_7,pin:=0 }
abbrev Zei:List (ETag × Shape):=[(.ret,{ sl:=sl_10,bl:=[],ts:=ts_0,pin:=0 }),(.exit 2,{ sl:=sl_11,bl:=bl_0,ts:=ts_8,pin:=0 })]
def Z8h (x:T56):Option (T56 ⊕ (T4 ⊕ T54)) :=
 bif (decide (x.2.2.2.2.2.2.2.1 < x.2.2.2.2.2.2.1)) then
 bif (inb x.2.2.2.2.2.2.2.1 (List.length x.2.2.2.2.2.1)) then
 (Z4a (x.2.2.2.2.2.2.2.2,x.2.1,(getAt ((0:Int),(0:Int),(0:Int)) x.2.2.2.2.2.1 (toN x.2.2.2.2.2.2.2.1)))).bind fun r8 =>
 bif (r8 != (0:Int)) then
 some (.inr (.inl (x.1,x.2.2.2.2.2.2.2.1,r8)))
 else
 some (.inl (x.1,x.2.1,x.2.2.1,x.2.2.2.1,x.2.2.2.2.1,x.2.2.2.2.2.1,x.2.2.2.2.2.2.1,(IntKind.wrap .i64 (x.2.2.2.2.2.2.2.1+(1:Int))),x.2.2.2.2.2.2.2.2))
 else
 none
 else
 some (.inr (.inr (x.2.2.1,x.2.2.2.1,x.2.2.2.2.1,x.2.2.2.2.2.2.2.2)))
def Zbx:Ctx:={ tb:=mkTb T2.tbl,fx:=[(154,[],Zpf),(155,[],Zp8)],sum:=[],nt:=51,pin:=0,nr:=true,ys:=[] }
theorem Z8i:CSound Tryz.prog ⟨51,0,true⟩ (.loop (loopOf 11 Tryz.f92)) (Yb0 Zfh Zei (loop Z8h)) :=
 Y8i (C:=Zbx) (ctxOK mixed tbl_ok rfl ⟨Z4t,Z4b,trivial⟩ trivial) (SumOK.of trivial) Zfh Zei rfl rfl Z8h (fun x=>by kernel_rfl)
abbrev Zfi:Shape:={ sl:=sl_11,bl:=bl_0,ts:=ts_8,pin:=0 }
abbrev Zej:List (ETag × Shape):=[(.ret,{ sl:=sl_10,bl:=[],ts:=ts_0,pin:=0 }),(.exit 0,{ sl:=[],bl:=[],ts:=[],pin:=0 })]
def Z8j (x:T54):Option (T54 ⊕ (T4 ⊕ Unit)) :=
 bif (decide (x.2.2.1 < x.2.1)) then
 bif (inb x.2.2.1 (List.length x.1)) then
 bif (decide ((((List.length (getAt ([]:List T7) x.1 (toN x.2.2.1))):Nat):Int) > (24:Int))) then
 some (.inr (.inl (x.2.2.1,(Int.negSucc 0),(2:Int))))
 else
 (loop Z8h (x.2.2.1,(getAt ([]:List T7) x.1 (toN x.2.2.1)),x.1,x.2.1,x.2.2.1,(getAt ([]:List T7) x.1 (toN x.2.2.1)),(((List.length (getAt ([]:List T7) x.1 (toN x.2.2.1))):Nat):Int),(0:Int),x.2.2.2)).bind fun r7 =>
 match r7 with
 | .inl y8 =>
 some (.inr (.inl (y8.1,y8.2.1,y8.2.2)))
 | .inr y8 =>
 some (.inl (y8.1,y8.2.1,(IntKind.wrap .i64 (y8.2.2.1+(1:Int))),y8.2.2.2))
 else
 none
 else
 some (.inr (.inr ()))
def Zby:Ctx:={ tb:=mkTb T2.tbl,fx:=[(154,[],Zpf),(155,[],Zp8)],sum:=[(0,11,Yb0 Zfh Zei (loop Z8h))],nt:=51,pin:=0,nr:=true,ys:=[] }
theorem Z8k:CSound Tryz.prog ⟨51,0,true⟩ (.loop (loopOf 6 Tryz.f92)) (Yb0 Zfi Zej (loop Z8j)) :=
 Y8i (C:=Zby) (ctxOK mixed tbl_ok rfl ⟨Z4t,Z4b,trivial⟩ trivial) (SumOK.of ⟨(Yb2 (d:=.loop (loopOf 11 Tryz.f92)) (by kernel_rfl) Z8i),trivial⟩) Zfi Zej rfl rfl Z8j (fun x=>by kernel_rfl)
abbrev Zhw:Shape:={ sl:=sl_6,bl:=[],ts:=[y39],pin:=0 }
abbrev Zli:Shape:={ sl:=sl_0,bl:=[],ts:=ts_0,pin:=0 }
def Z42 (x:(T47)):Option T4 :=
 (Z4o x).bind fun r5 =>
 bif (r5.2 != (0:Int)) then
 some ((Int.negSucc 0),r5.1,r5.2)
 else
 (loop Z8j (x.2.2.2.2.2,(((List.length x.2.2.2.2.2):Nat):Int),(0:Int),x)).bind fun r6 =>
 match r6 with
 | .inl y7 =>
 some (y7.1,y7.2.1,y7.2.2)
 | .inr y7 =>
 some ((Int.negSucc 0),(Int.negSucc 0),(0:Int))
abbrev Zp4:=Spec.shp Zhw Zli Z42
def Zbw:Ctx:={ tb:=mkTb T2.tbl,fx:=[(154,[],Zpf),(155,[],Zp8)],sum:=[(0,11,Yb0 Zfh Zei (loop Z8h)),(0,6,Yb0 Zfi Zej (loop Z8j))],nt:=51,pin:=0,nr:=true,ys:=[] }
theorem Z43:Sound Tryz.prog 92 (Zp4) :=
 Sound.shp (C:=Zbw) (fn:=Tryz.f92) (by kernel_rfl) (c:=bodyOf Tryz.f92) (by kernel_rfl) (by decide) (ctxOK mixed tbl_ok rfl ⟨Z4t,Z4b,trivial⟩ trivial) (SumOK.of ⟨(Yb2 (d:=.loop (loopOf 11 Tryz.f92)) (by kernel_rfl) Z8i),(Yb2 (d:=.loop (loopOf 6 Tryz.f92)) (by kernel_rfl) Z8k),trivial⟩) (by kernel_rfl) Zhw Zli rfl (by decide) (by decide) rfl (by decide) rfl Z42 (fun x=>by kernel_rfl)
abbrev Zhv:Shape:={ sl:=sl_6,bl:=[],ts:=[y39],pin:=0 }
abbrev Zlh:Shape:={ sl:=sl_1,bl:=[],ts:=ts_1,pin:=0 }
def Z40 (x:(T47)):Option (Bool) :=
 (Z42 x).bind fun r4 =>
 some (r4.2.2 == (0:Int))
abbrev Zp3:=Spec.shp Zhv Zlh Z40
def Zbv:Ctx:={ tb:=mkTb T2.tbl,fx:=[(92,[],Zp4)],sum:=[],nt:=14,pin:=0,nr:=true,ys:=[] }
theorem Z41:Sound Tryz.prog 38 (Zp3) :=
 Sound.shp (C:=Zbv) (fn:=Tryz.f38) (by kernel_rfl) (c:=bodyOf Tryz.f38) (by kernel_rfl) (by decide) (ctxOK mixed tbl_ok rfl ⟨Z43,trivial⟩ trivial) (SumOK.of trivial) (by kernel_rfl) Zhv Zlh rfl (by decide) (by decide) rfl (by decide) rfl Z40 (fun x=>by kernel_rfl)
abbrev Zid:Shape:={ sl:=sl_2,bl:=[],ts:=ts_2,pin:=0 }
abbrev Zlz:Shape:={ sl:=sl_12,bl:=[],ts:=[y21,(.int .i64)],pin:=0 }
def Z50 (x:(Int)):Option (T16 × Int) :=
 bif (decide (x < (0:Int))) then
 some (((0:Int),(0:Int),([]:List Int),(0:Int)),(2:Int))
 else
 bif (decide (x > (8:Int))) then
 some (((0:Int),(0:Int),([]:List Int),(0:Int)),(2:Int))
 else
 bif (mkOK x x) then
 some ((x,(0:Int),(List.replicate (toN x) (0:Int)),(0:Int)),(0:Int))
 else
 none
abbrev Zpk:=Spec.shp Zid Zlz Z50
def Zcg:Ctx:={ tb:=mkTb T2.tbl,fx:=[],sum:=[],nt:=15,pin:=0,nr:=true,ys:=[] }
theorem Z51:Sound Tryz.prog 93 (Zpk) :=
 Sound.shp (C:=Zcg) (fn:=Tryz.f93) (by kernel_rfl) (c:=bodyOf Tryz.f93) (by kernel_rfl) (by decide) (ctxOK mixed tbl_ok rfl trivial trivial) (SumOK.of trivial) (by kernel_rfl) Zid Zlz rfl (by decide) (by decide) rfl (by decide) rfl Z50 (fun x=>by kernel_rfl)
abbrev Zfz:Shape:={ sl:=sl_2,bl:=[],ts:=ts_2,pin:=0 }
abbrev Zjl:Shape:={ sl:=sl_13,bl:=[],ts:=[y40,(.int .i64)],pin:=0 }
def Z4 (x:(Int)):Option T46 :=
 bif (decide (x < (Int.negSucc 0))) then
 some (((0:Int),false,((0:Int),(0:Int),([]:List Int),(0:Int)),(0:Int),(0:Int),([]:List T7),([]:List T7)),(2:Int))
 else
 bif (decide (x > (3:Int))) then
 some (((0:Int),false,((0:Int),(0:Int),([]:List Int),(0:Int)),(0:Int),(0:Int),([]:List T7),([]:List T7)),(2:Int))
 else
 (Z50 (Max.max x (0:Int))).bind fun r6 =>
 some ((x,false,r6.1,(0:Int),(0:Int),([]:List T7),([]:List T7)),r6.2)
abbrev Zn7:=Spec.shp Zfz Zjl Z4
def Z9f:Ctx:={ tb:=mkTb T2.tbl,fx:=[(93,[],Zpk)],sum:=[],nt:=23,pin:=0,nr:=true,ys:=[] }
theorem Z5:Sound Tryz.prog 39 (Zn7) :=
 Sound.shp (C:=Z9f) (fn:=Tryz.f39) (by kernel_rfl) (c:=bodyOf Tryz.f39) (by kernel_rfl) (by decide) (ctxOK mixed tbl_ok rfl ⟨Z51,trivial⟩ trivial) (SumOK.of trivial) (by kernel_rfl) Zfz Zjl rfl (by decide) (by decide) rfl (by decide) rfl Z4 (fun x=>by kernel_rfl)
abbrev Zf0:Shape:={ sl:=[(2,(.ptr 0 [])),(5,(.ptr 1 [])),(26,(.hole y0)),(27,(.hole (.int .i64))),(28,(.hole (.int .i64)))],bl:=bl_1,ts:=[y0,(.int .i64),(.int .i64),(.int .i64),(.int .i64),(.int .i64),y4,y39,y4,y18,y41,y19,y26],pin:=0 }
abbrev Ze1:List (ETag × Shape):=[(.exit 0,{ sl:=[(2,(.ptr 0 [])),(5,(.ptr 1 []))],bl:=bl_1,ts:=ts_9,pin:=0 })]
def Z7i (x:(List Int × Int × Int × Int × Int × Int × (Int × Int) × T47 × (Int × Int) × List (T17) × List T43 × List (T18) × List T29)):Option ((List Int × Int × Int × Int × Int × Int × (Int × Int) × T47 × (Int × Int) × List (T17) × List T43 × List (T18) × List T29) ⊕ (Int × Int × Int × (Int × Int) × T47 × (Int × Int) × List (T17) × List T43 × List (T18) × List T29)) :=
 bif (decide (x.2.2.1 < x.2.1)) then
 bif (inb x.2.2.1 (List.length x.1)) then
 (Z4 (getAt (0:Int) x.1 (toN x.2.2.1))).bind fun r5 =>
 bif (fits ((List.length x.2.2.2.2.2.2.2.2.2.2.1)+(List.length (r5.1 :: ([]:List (Int × T41)))))) then
 some (.inl (x.1,x.2.1,(IntKind.wrap .i64 (x.2.2.1+(1:Int))),x.2.2.2.1,x.2.2.2.2.1,x.2.2.2.2.2.1,x.2.2.2.2.2.2.1,x.2.2.2.2.2.2.2.1,x.2.2.2.2.2.2.2.2.1,x.2.2.2.2.2.2.2.2.2.1,(x.2.2.2.2.2.2.2.2.2.2.1++(r5.1 :: ([]:List (Int × T41)))),x.2.2.2.2.2.2.2.2.2.2.2.1,x.2.2.2.2.2.2.2.2.2.2.2.2))
 else
 none
 else
 none
 else
 some (.inr (x.2.2.2.1,x.2.2.2.2.1,x.2.2.2.2.2.1,x.2.2.2.2.2.2.1,x.2.2.2.2.2.2.2.1,x.2.2.2.2.2.2.2.2.1,x.2.2.2.2.2.2.2.2.2.1,x.2.2.2.2.2.2.2.2.2.2.1,x.2.2.2.2.2.2.2.2.2.2.2.1,x.2.2.2.2.2.2.2.2.2.2.2.2))
def Za1:Ctx:={ tb:=mkTb T2.tbl,fx:=[(38,[],Zp3),(39,[],Zn7)],sum:=[],nt:=61,pin:=0,nr:=true,ys:=[] }
theorem Z7j:CSound Tryz.prog ⟨61,0,true⟩ (.loop (loopOf 6 Tryz.f14)) (Yb0 Zf0 Ze1 (loop Z7i)) :=
 Y8i (C:=Za1) (ctxOK mixed tbl_ok rfl ⟨Z41,Z5,trivial⟩ trivial) (SumOK.of trivial) Zf0 Ze1 rfl rfl Z7i (fun x=>by kernel_rfl)
abbrev Zhg:Shape:={ sl:=[(0,(.ptr 0 [])),(1,(.hole (.int .i64))),(2,(.hole (.int .i64))),(3,(.hole (.int .i64))),(4,(.hole (.int .i64))),(5,(.hole (.int .i64)))],bl:=bl_2,ts:=[(.int .i64),(.int .i64),(.int .i64),(.int .i64),(.int .i64),y39,y4,y18,y41,y19,y26,y27],pin:=0 }
abbrev Zl2:Shape:={ sl:=sl_2,bl:=bl_2,ts:=ts_10,pin:=1 }
def Z35 (x:(Int × Int × Int × Int × Int × T47 × (Int × Int) × List (T17) × List T43 × List (T18) × List T29 × List (T20))):Option T58 :=
 bif (fits ((List.length x.2.2.2.2.2.2.2.2.2.2.2)+(List.length ((x.1,x.2.1,x.2.2.1,x.2.2.2.1,x.2.2.2.2.1) :: ([]:List T20))))) then
 some ((IntKind.wrap .i64 ((IntKind.wrap .i64 (x.2.2.2.2.2.2.1.1+(1:Int))) - (1:Int))),x.2.2.2.2.2.1,((IntKind.wrap .i64 (x.2.2.2.2.2.2.1.1+(1:Int))),x.2.2.2.2.2.2.1.2),x.2.2.2.2.2.2.2.1,x.2.2.2.2.2.2.2.2.1,x.2.2.2.2.2.2.2.2.2.1,x.2.2.2.2.2.2.2.2.2.2.1,(x.2.2.2.2.2.2.2.2.2.2.2++((x.1,x.2.1,x.2.2.1,x.2.2.2.1,x.2.2.2.2.1) :: ([]:List T20))))
 else
 none
abbrev Zoo:=Spec.shp Zhg Zl2 Z35
def Zb7:Ctx:={ tb:=mkTb T2.tbl,fx:=[],sum:=[],nt:=43,pin:=1,nr:=true,ys:=[] }
theorem Z36:Sound Tryz.prog 40 (Zoo) :=
 Sound.shp (C:=Zb7) (fn:=Tryz.f40) (by kernel_rfl) (c:=bodyOf Tryz.f40) (by kernel_rfl) (by decide) (ctxOK mixed tbl_ok rfl trivial trivial) (SumOK.of trivial) (by kernel_rfl) Zhg Zl2 rfl (by decide) (by decide) rfl (by decide) rfl Z35 (fun x=>by kernel_rfl)
abbrev Zgy:Shape:={ sl:=sl_14,bl:=bl_2,ts:=[(.int .i64),(.int .i64),y39,y4,y18,y41,y19,y26,y27],pin:=0 }
abbrev Zkk:Shape:={ sl:=[],bl:=bl_2,ts:=ts_11,pin:=1 }
def Z24 (x:(Int × Int × T47 × (Int × Int) × List (T17) × List T43 × List (T18) × List T29 × List (T20))):Option T57 :=
 bif (inb x.1 (List.length x.2.2.2.2.1)) then
 bif (inb (getAt ((0:Int),(0:Int),(0:Int),false) (List.set (List.set x.2.2.2.2.1 (toN x.1) ((getAt ((0:Int),(0:Int),(0:Int),false) x.2.2.2.2.1 (toN x.1)).1,x.2.1,(getAt ((0:Int),(0:Int),(0:Int),false) x.2.2.2.2.1 (toN x.1)).2.2)) (toN x.1) ((getAt ((0:Int),(0:Int),(0:Int),false) (List.set x.2.2.2.2.1 (toN x.1) ((getAt ((0:Int),(0:Int),(0:Int),false) x.2.2.2.2.1 (toN x.1)).1,x.2.1,(getAt ((0:Int),(0:Int),(0:Int),false) x.2.2.2.2.1 (toN x.1)).2.2)) (toN x.1)).1,(getAt ((0:Int),(0:Int),(0:Int),false) (List.set x.2.2.2.2.1 (toN x.1) ((getAt ((0:Int),(0:Int),(0:Int),false) x.2.2.2.2.1 (toN x.1)).1,x.2.1,(getAt ((0:Int),(0:Int),(0:Int),false) x.2.2.2.2.1 (toN x.1)).2.2)) (toN x.1)).2.1,(0:Int),(getAt ((0:Int),(0:Int),(0:Int),false) (List.set x.2.2.2.2.1 (toN x.1) ((getAt ((0:Int),(0:Int),(0:Int),false) x.2.2.2.2.1 (toN x.1)).1,x.2.1,(getAt ((0:Int),(0:Int),(0:Int),false) x.2.2.2.2.1 (toN x.1)).2.2)) (toN x.1)).2.2.2)) (toN x.1)).1 (List.length x.2.2.1.2.2.2.2.2)) then
 bif (x.2.1 == (((List.length (getAt ([]:List T7) x.2.2.1.2.2.2.2.2 (toN (getAt ((0:Int),(0:Int),(0:Int),false) (List.set (List.set x.2.2.2.2.1 (toN x.1) ((getAt ((0:Int),(0:Int),(0:Int),false) x.2.2.2.2.1 (toN x.1)).1,x.2.1,(getAt ((0:Int),(0:Int),(0:Int),false) x.2.2.2.2.1 (toN x.1)).2.2)) (toN x.1) ((getAt ((0:Int),(0:Int),(0:Int),false) (List.set x.2.2.2.2.1 (toN x.1) ((getAt ((0:Int),(0:Int),(0:Int),false) x.2.2.2.2.1 (toN x.1)).1,x.2.1,(getAt ((0:Int),(0:Int),(0:Int),false) x.2.2.2.2.1 (toN x.1)).2.2)) (toN x.1)).1,(getAt ((0:Int),(0:Int),(0:Int),false) (List.set x.2.2.2.2.1 (toN x.1) ((getAt ((0:Int),(0:Int),(0:Int),false) x.2.2.2.2.1 (toN x.1)).1,x.2.1,(getAt ((0:Int),(0:Int),(0:Int),false) x.2.2.2.2.1 (toN x.1)).2.2)) (toN x.1)).2.1,(0:Int),(getAt ((0:Int),(0:Int),(0:Int),false) (List.set x.2.2.2.2.1 (toN x.1) ((getAt ((0:Int),(0:Int),(0:Int),false) x.2.2.2.2.1 (toN x.1)).1,x.2.1,(getAt ((0:Int),(0:Int),(0:Int),false) x.2.2.2.2.1 (toN x.1)).2.2)) (toN x.1)).2.2.2)) (toN x.1)).1))):Nat):Int)) then
 some (x.2.2.1,x.2.2.2.1,(List.set (List.set (List.set x.2.2.2.2.1 (toN x.1) ((getAt ((0:Int),(0:Int),(0:Int),false) x.2.2.2.2.1 (toN x.1)).1,x.2.1,(getAt ((0:Int),(0:Int),(0:Int),false) x.2.2.2.2.1 (toN x.1)).2.2)) (toN x.1) ((getAt ((0:Int),(0:Int),(0:Int),false) (List.set x.2.2.2.2.1 (toN x.1) ((getAt ((0:Int),(0:Int),(0:Int),false) x.2.2.2.2.1 (toN x.1)).1,x.2.1,(getAt ((0:Int),(0:Int),(0:Int),false) x.2.2.2.2.1 (toN x.1)).2.2)) (toN x.1)).1,(getAt ((0:Int),(0:Int),(0:Int),false) (List.set x.2.2.2.2.1 (toN x.1) ((getAt ((0:Int),(0:Int),(0:Int),false) x.2.2.2.2.1 (toN x.1)).1,x.2.1,(getAt ((0:Int),(0:Int),(0:Int),false) x.2.2.2.2.1 (toN x.1)).2.2)) (toN x.1)).2.1,(0:Int),(getAt ((0:Int),(0:Int),(0:Int),false) (List.set x.2.2.2.2.1 (toN x.1) ((getAt ((0:Int),(0:Int),(0:Int),false) x.2.2.2.2.1 (toN x.1)).1,x.2.1,(getAt ((0:Int),(0:Int),(0:Int),false) x.2.2.2.2.1 (toN x.1)).2.2)) (toN x.1)).2.2.2)) (toN x.1) ((getAt ((0:Int),(0:Int),(0:Int),false) (List.set (List.set x.2.2.2.2.1 (toN x.1) ((getAt ((0:Int),(0:Int),(0:Int),false) x.2.2.2.2.1 (toN x.1)).1,x.2.1,(getAt ((0:Int),(0:Int),(0:Int),false) x.2.2.2.2.1 (toN x.1)).2.2)) (toN x.1) ((getAt ((0:Int),(0:Int),(0:Int),false) (List.set x.2.2.2.2.1 (toN x.1) ((getAt ((0:Int),(0:Int),(0:Int),false) x.2.2.2.2.1 (toN x.1)).1,x.2.1,(getAt ((0:Int),(0:Int),(0:Int),false) x.2.2.2.2.1 (toN x.1)).2.2)) (toN x.1)).1,(getAt ((0:Int),(0:Int),(0:Int),false) (List.set x.2.2.2.2.1 (toN x.1) ((getAt ((0:Int),(0:Int),(0:Int),false) x.2.2.2.2.1 (toN x.1)).1,x.2.1,(getAt ((0:Int),(0:Int),(0:Int),false) x.2.2.2.2.1 (toN x.1)).2.2)) (toN x.1)).2.1,(0:Int),(getAt ((0:Int),(0:Int),(0:Int),false) (List.set x.2.2.2.2.1 (toN x.1) ((getAt ((0:Int),(0:Int),(0:Int),false) x.2.2.2.2.1 (toN x.1)).1,x.2.1,(getAt ((0:Int),(0:Int),(0:Int),false) x.2.2.2.2.1 (toN x.1)).2.2)) (toN x.1)).2.2.2)) (toN x.1)).1,(getAt ((0:Int),(0:Int),(0:Int),false) (List.set (List.set x.2.2.2.2.1 (toN x.1) ((getAt ((0:Int),(0:Int),(0:Int),false) x.2.2.2.2.1 (toN x.1)).1,x.2.1,(getAt ((0:Int),(0:Int),(0:Int),false) x.2.2.2.2.1 (toN x.1)).2.2)) (toN x.1) ((getAt ((0:Int),(0:Int),(0:Int),false) (List.set x.2.2.2.2.1 (toN x.1) ((getAt ((0:Int),(0:Int),(0:Int),false) x.2.2.2.2.1 (toN x.1)).1,x.2.1,(getAt ((0:Int),(0:Int),(0:Int),false) x.2.2.2.2.1 (toN x.1)).2.2)) (toN x.1)).1,(getAt ((0:Int),(0:Int),(0:Int),false) (List.set x.2.2.2.2.1 (toN x.1) ((getAt ((0:Int),(0:Int),(0:Int),false) x.2.2.2.2.1 (toN x.1)).1,x.2.1,(getAt ((0:Int),(0:Int),(0:Int),false) x.2.2.2.2.1 (toN x.1)).2.2)) (toN x.1)).2.1,(0:Int),(getAt ((0:Int),(0:Int),(0:Int),false) (List.set x.2.2.2.2.1 (toN x.1) ((getAt ((0:Int),(0:Int),(0:Int),false) x.2.2.2.2.1 (toN x.1)).1,x.2.1,(getAt ((0:Int),(0:Int),(0:Int),false) x.2.2.2.2.1 (toN x.1)).2.2)) (toN x.1)).2.2.2)) (toN x.1)).2.1,(2:Int),(getAt ((0:Int),(0:Int),(0:Int),false) (List.set (List.set x.2.2.2.2.1 (toN x.1) ((getAt ((0:Int),(0:Int),(0:Int),false) x.2.2.2.2.1 (toN x.1)).1,x.2.1,(getAt ((0:Int),(0:Int),(0:Int),false) x.2.2.2.2.1 (toN x.1)).2.2)) (toN x.1) ((getAt ((0:Int),(0:Int),(0:Int),false) (List.set x.2.2.2.2.1 (toN x.1) ((getAt ((0:Int),(0:Int),(0:Int),false) x.2.2.2.2.1 (toN x.1)).1,x.2.1,(getAt ((0:Int),(0:Int),(0:Int),false) x.2.2.2.2.1 (toN x.1)).2.2)) (toN x.1)).1,(getAt ((0:Int),(0:Int),(0:Int),false) (List.set x.2.2.2.2.1 (toN x.1) ((getAt ((0:Int),(0:Int),(0:Int),false) x.2.2.2.2.1 (toN x.1)).1,x.2.1,(getAt ((0:Int),(0:Int),(0:Int),false) x.2.2.2.2.1 (toN x.1)).2.2)) (toN x.1)).2.1,(0:Int),(getAt ((0:Int),(0:Int),(0:Int),false) (List.set x.2.2.2.2.1 (toN x.1) ((getAt ((0:Int),(0:Int),(0:Int),false) x.2.2.2.2.1 (toN x.1)).1,x.2.1,(getAt ((0:Int),(0:Int),(0:Int),false) x.2.2.2.2.1 (toN x.1)).2.2)) (toN x.1)).2.2.2)) (toN x.1)).2.2.2)),x.2.2.2.2.2.1,x.2.2.2.2.2.2.1,x.2.2.2.2.2.2.2.1,x.2.2.2.2.2.2.2.2)
 else
 some (x.2.2.1,x.2.2.2.1,(List.set (List.set x.2.2.2.2.1 (toN x.1) ((getAt ((0:Int),(0:Int),(0:Int),false) x.2.2.2.2.1 (toN x.1)).1,x.2.1,(getAt ((0:Int),(0:Int),(0:Int),false) x.2.2.2.2.1 (toN x.1)).2.2)) (toN x.1) ((getAt ((0:Int),(0:Int),(0:Int),false) (List.set x.2.2.2.2.1 (toN x.1) ((getAt ((0:Int),(0:Int),(0:Int),false) x.2.2.2.2.1 (toN x.1)).1,x.2.1,(getAt ((0:Int),(0:Int),(0:Int),false) x.2.2.2.2.1 (toN x.1)).2.2)) (toN x.1)).1,(getAt ((0:Int),(0:Int),(0:Int),false) (List.set x.2.2.2.2.1 (toN x.1) ((getAt ((0:Int),(0:Int),(0:Int),false) x.2.2.2.2.1 (toN x.1)).1,x.2.1,(getAt ((0:Int),(0:Int),(0:Int),false) x.2.2.2.2.1 (toN x.1)).2.2)) (toN x.1)).2.1,(0:Int),(getAt ((0:Int),(0:Int),(0:Int),false) (List.set x.2.2.2.2.1 (toN x.1) ((getAt ((0:Int),(0:Int),(0:Int),false) x.2.2.2.2.1 (toN x.1)).1,x.2.1,(getAt ((0:Int),(0:Int),(0:Int),false) x.2.2.2.2.1 (toN x.1)).2.2)) (toN x.1)).2.2.2)),x.2.2.2.2.2.1,x.2.2.2.2.2.2.1,x.2.2.2.2.2.2.2.1,x.2.2.2.2.2.2.2.2)
 else
 none
 else
 none
abbrev Zo6:=Spec.shp Zgy Zkk Z24
def Zan:Ctx:={ tb:=mkTb T2.tbl,fx:=[],sum:=[],nt:=39,pin:=1,nr:=true,ys:=[] }
theorem Z25:Sound Tryz.prog 41 (Zo6) :=
 Sound.shp (C:=Zan) (fn:=Tryz.f41) (by kernel_rfl) (c:=bodyOf Tryz.f41) (by kernel_rfl) (by decide) (ctxOK mixed tbl_ok rfl trivial trivial) (SumOK.of trivial) (by kernel_rfl) Zgy Zkk rfl (by decide) (by decide) rfl (by decide) rfl Z24 (fun x=>by kernel_rfl)
abbrev Zhd:Shape:={ sl:=[(0,(.hole y12)),(1,(.ptr 0 []))],bl:=bl_3,ts:=[y12,(.int .i64)],pin:=0 }
abbrev Zkz:Shape:={ sl:=sl_1,bl:=bl_3,ts:=[.bool,(.int .i64)],pin:=1 }
def Z2w (x:(T17 × Int)):Option T0 :=
 some ((x.1.2.2.1 == x.2),x.2)
abbrev Zol:=Spec.shp Zhd Zkz Z2w
def Zb3:Ctx:={ tb:=mkTb T2.tbl,fx:=[],sum:=[],nt:=8,pin:=1,nr:=true,ys:=[] }
theorem Z2x:Sound Tryz.prog 96 (Zol) :=
 Sound.shp (C:=Zb3) (fn:=Tryz.f96) (by kernel_rfl) (c:=bodyOf Tryz.f96) (by kernel_rfl) (by decide) (ctxOK mixed tbl_ok rfl trivial trivial) (SumOK.of trivial) (by kernel_rfl) Zhd Zkz rfl (by decide) (by decide) rfl (by decide) rfl Z2w (fun x=>by kernel_rfl)
theorem Z2y:Sound Tryz.prog 96 (Spec.shpR Zhd Zkz Z2w) :=
 Sound.shpR (fun x y h=>by have h:=Option.some.inj h; subst h; rfl) Z2x
abbrev Zfo:Shape:={ sl:=[(0,(.sl 0)),(1,(.fn 96 .nil (.cons (.ptr 1 []) .nil))),(7,(.hole (.int .i64))),(8,(.hole (.int .i64)))],bl:=bl_4,ts:=[(.int .i64),(.int .i64),y18,(.int .i64)],pin:=2 }
abbrev Zep:List (ETag × Shape):=[(.ret,{ sl:=sl_3,bl:=bl_4,ts:=[(.int .i64),y18,(.int .i64)],pin:=2 }),(.exit 0,{ sl:=[],bl:=bl_4,ts:=[y18,(.int .i64)],pin:=2 })]
def Z8v (x:(Int × Int × List (T17) × Int)):Option ((Int × Int × List (T17) × Int) ⊕ ((Int × List (T17) × Int) ⊕ (List (T17) × Int))) :=
 bif (decide (x.2.1 < x.1)) then
 bif (inb x.2.1 (List.length x.2.2.1)) then
 (Z2w ((getAt ((0:Int),(0:Int),(0:Int),false) x.2.2.1 (toN x.2.1)),x.2.2.2)).bind fun r12 =>
 bif r12.1 then
 some (.inr (.inl (x.2.1,x.2.2.1,x.2.2.2)))
 else
 some (.inl (x.1,(IntKind.wrap .i64 (x.2.1+(1:Int))),x.2.2.1,x.2.2.2))
 else
 none
 else
 some (.inr (.inr (x.2.2.1,x.2.2.2)))
def Zda:Ctx:={ tb:=mkTb T2.tbl,fx:=[(96,[],Spec.shpR Zhd Zkz Z2w)],sum:=[],nt:=19,pin:=2,nr:=true,ys:=[] }
theorem Z8w:CSound Tryz.prog ⟨19,2,true⟩ (.loop (loopOf 3 Tryz.f156)) (Yb0 Zfo Zep (loop Z8v)) :=
 Y8i (C:=Zda) (ctxOK mixed tbl_ok rfl ⟨Z2y,trivial⟩ trivial) (SumOK.of trivial) Zfo Zep rfl rfl Z8v (fun x=>by kernel_rfl)
abbrev Zj2:Shape:={ sl:=[(0,(.sl 0)),(1,(.fn 96 .nil (.cons (.ptr 1 []) .nil)))],bl:=bl_4,ts:=[y18,(.int .i64)],pin:=0 }
abbrev Zmo:Shape:={ sl:=sl_2,bl:=bl_4,ts:=[(.int .i64),y18,(.int .i64)],pin:=2 }
def Z6e (x:(List (T17) × Int)):Option (Int × List (T17) × Int) :=
 (loop Z8v ((((List.length x.1):Nat):Int),(0:Int),x.1,x.2)).bind fun r11 =>
 match r11 with
 | .inl y12 =>
 some (y12.1,y12.2.1,y12.2.2)
 | .inr y12 =>
 some ((Int.negSucc 0),y12.1,y12.2)
abbrev Zq9:=Spec.shp Zj2 Zmo Z6e
def Zd9:Ctx:={ tb:=mkTb T2.tbl,fx:=[(96,[],Spec.shpR Zhd Zkz Z2w)],sum:=[(0,3,Yb0 Zfo Zep (loop Z8v))],nt:=19,pin:=2,nr:=true,ys:=[] }
theorem Z6f:Sound Tryz.prog 156 (Zq9) :=
 Sound.shp (C:=Zd9) (fn:=Tryz.f156) (by kernel_rfl) (c:=bodyOf Tryz.f156) (by kernel_rfl) (by decide) (ctxOK mixed tbl_ok rfl ⟨Z2y,trivial⟩ trivial) (SumOK.of ⟨(Yb2 (d:=.loop (loopOf 3 Tryz.f156)) (by kernel_rfl) Z8w),trivial⟩) (by kernel_rfl) Zj2 Zmo rfl (by decide) (by decide) rfl (by decide) rfl Z6e (fun x=>by kernel_rfl)
abbrev Zit:Shape:={ sl:=[(0,(.sl 0)),(1,(.fn 96 .nil (.cons (.ptr 1 []) .nil)))],bl:=bl_4,ts:=[y18,(.int .i64)],pin:=0 }
abbrev Zmf:Shape:={ sl:=sl_1,bl:=bl_4,ts:=[.bool,y18,(.int .i64)],pin:=2 }
def Z5w (x:(List (T17) × Int)):Option (Bool × List (T17) × Int) :=
 (Z6e (x.1,x.2)).bind fun r10 =>
 some ((decide (r10.1 ≥ (0:Int))),r10.2.1,r10.2.2)
abbrev Zq0:=Spec.shp Zit Zmf Z5w
def Zcx:Ctx:={ tb:=mkTb T2.tbl,fx:=[(156,[2000000,96],Zq9)],sum:=[],nt:=9,pin:=2,nr:=true,ys:=[] }
theorem Z5x:Sound Tryz.prog 95 (Zq0) :=
 Sound.shp (C:=Zcx) (fn:=Tryz.f95) (by kernel_rfl) (c:=bodyOf Tryz.f95) (by kernel_rfl) (by decide) (ctxOK mixed tbl_ok rfl ⟨Z6f,trivial⟩ trivial) (SumOK.of trivial) (by kernel_rfl) Zit Zmf rfl (by decide) (by decide) rfl (by decide) rfl Z5w (fun x=>by kernel_rfl)
abbrev Zhc:Shape:={ sl:=[(0,(.hole (.int .i64))),(1,(.ptr 0 []))],bl:=bl_5,ts:=ts_10,pin:=0 }
abbrev Zky:Shape:={ sl:=sl_1,bl:=bl_5,ts:=[.bool,y39,y4,y18,y41,y19,y26,y27],pin:=2 }
def Z2v (x:T58):Option (Bool × T47 × (Int × Int) × List (T17) × List T43 × List (T18) × List T29 × List (T20)) :=
 (Z5w (x.2.2.2.1,x.1)).bind fun r9 =>
 some (r9.1,x.2.1,x.2.2.1,r9.2.1,x.2.2.2.2.1,x.2.2.2.2.2.1,x.2.2.2.2.2.2.1,x.2.2.2.2.2.2.2)
abbrev Zok:=Spec.shp Zhc Zky Z2v
def Zb2:Ctx:={ tb:=mkTb T2.tbl,fx:=[(95,[2000000,96],Zq0)],sum:=[],nt:=11,pin:=2,nr:=true,ys:=[] }
theorem Z2z:Sound Tryz.prog 94 (Zok) :=
 Sound.shp (C:=Zb2) (fn:=Tryz.f94) (by kernel_rfl) (c:=bodyOf Tryz.f94) (by kernel_rfl) (by decide) (ctxOK mixed tbl_ok rfl ⟨Z5x,trivial⟩ trivial) (SumOK.of trivial) (by kernel_rfl) Zhc Zky rfl (by decide) (by decide) rfl (by decide) rfl Z2v (fun x=>by kernel_rfl)
abbrev Zhb:Shape:={ sl:=sl_15,bl:=bl_2,ts:=ts_11,pin:=0 }
abbrev Zkx:Shape:={ sl:=[],bl:=bl_2,ts:=ts_11,pin:=1 }
def Z2u (x:T57):Option T57 :=
 bif (x.2.1.2 != (0:Int)) then
 some (x.1,x.2.1,x.2.2.1,x.2.2.2.1,x.2.2.2.2.1,x.2.2.2.2.2.1,x.2.2.2.2.2.2)
 else
 (Z2v ((0:Int),x.1,x.2.1,x.2.2.1,x.2.2.2.1,x.2.2.2.2.1,x.2.2.2.2.2.1,x.2.2.2.2.2.2)).bind fun r8 =>
 bif r8.1 then
 some (r8.2.1,r8.2.2.1,r8.2.2.2.1,r8.2.2.2.2.1,r8.2.2.2.2.2.1,r8.2.2.2.2.2.2.1,r8.2.2.2.2.2.2.2)
 else
 (Z2v ((1:Int),r8.2.1,r8.2.2.1,r8.2.2.2.1,r8.2.2.2.2.1,r8.2.2.2.2.2.1,r8.2.2.2.2.2.2.1,r8.2.2.2.2.2.2.2)).bind fun r9 =>
 bif r9.1 then
 some (r9.2.1,(r9.2.2.1.1,(2:Int)),r9.2.2.2.1,r9.2.2.2.2.1,r9.2.2.2.2.2.1,r9.2.2.2.2.2.2.1,r9.2.2.2.2.2.2.2)
 else
 some (r9.2.1,(r9.2.2.1.1,(1:Int)),r9.2.2.2.1,r9.2.2.2.2.1,r9.2.2.2.2.2.1,r9.2.2.2.2.2.2.1,r9.2.2.2.2.2.2.2)
abbrev Zoj:=Spec.shp Zhb Zkx Z2u
def Zb1:Ctx:={ tb:=mkTb T2.tbl,fx:=[(94,[],Spec.thin (Zok))],sum:=[],nt:=26,pin:=1,nr:=true,ys:=[] }
theorem Z30:Sound Tryz.prog 42 (Zoj) :=
 Sound.shp (C:=Zb1) (fn:=Tryz.f42) (by kernel_rfl) (c:=bodyOf Tryz.f42) (by kernel_rfl) (by decide) (ctxOK mixed tbl_ok rfl ⟨Z2z.thin,trivial⟩ trivial) (SumOK.of trivial) (by kernel_rfl) Zhb Zkx rfl (by decide) (by decide) rfl (by decide) rfl Z2u (fun x=>by kernel_rfl)
abbrev Zgi:Shape:={ sl:=sl_6,bl:=[],ts:=[y39],pin:=0 }
abbrev Zk4:Shape:={ sl:=[(0,(.hole y45)),(1,(.hole y27)),(2,(.hole (.int .i64)))],bl:=[],ts:=[y45,y27,(.int .i64)],pin:=0 }
def Z18 (x:(T47)):Option ((T47 × T61) × List (T20) × Int) :=
 (Z40 x).bind fun r3 =>
 bif (Bool.not r3) then
 some (((([]:List Int),(0:Int),(0:Int),(0:Int),([]:List T21),([]:List (List T7))),([]:List T17),([]:List (Int × T41)),([]:List T22),([]:List (Int × T14)),(0:Int),(0:Int)),([]:List T20),(1:Int))
 else
 bif (mkOK x.2.1 x.2.1) then
 bif (mkOK x.2.2.1 x.2.2.1) then
 (loop Z7i (x.1,(((List.length x.1):Nat):Int),(0:Int),(0:Int),(0:Int),(0:Int),((0:Int),(0:Int)),x,((0:Int),(0:Int)),(((0:Int),(0:Int),(0:Int),false) :: ([]:List T17)),([]:List (Int × T41)),(List.replicate (toN x.2.1) (false,([]:List T7))),(List.replicate (toN x.2.2.1) ((0:Int),(0:Int),([]:List T7))))).bind fun r4 =>
 (Z35 ((0:Int),(0:Int),(0:Int),(0:Int),(Int.negSucc 0),r4.2.2.2.2.1,r4.2.2.2.2.2.1,r4.2.2.2.2.2.2.1,r4.2.2.2.2.2.2.2.1,r4.2.2.2.2.2.2.2.2.1,r4.2.2.2.2.2.2.2.2.2,([]:List T20))).bind fun r5 =>
 (Z24 ((0:Int),(0:Int),r5.2.1,r5.2.2.1,r5.2.2.2.1,r5.2.2.2.2.1,r5.2.2.2.2.2.1,r5.2.2.2.2.2.2.1,r5.2.2.2.2.2.2.2)).bind fun r6 =>
 (Z2u (r6.1,r6.2.1,r6.2.2.1,r6.2.2.2.1,r6.2.2.2.2.1,r6.2.2.2.2.2.1,r6.2.2.2.2.2.2)).bind fun r7 =>
 some ((r7.1,r7.2.2.1,r7.2.2.2.1,r7.2.2.2.2.1,r7.2.2.2.2.2.1,r7.2.1),r7.2.2.2.2.2.2,(0:Int))
 else
 none
 else
 none
abbrev Znq:=Spec.shp Zgi Zk4 Z18
def Za0:Ctx:={ tb:=mkTb T2.tbl,fx:=[(38,[],Zp3),(39,[],Zn7),(40,[],Zoo),(41,[],Zo6),(42,[],Zoj)],sum:=[(0,6,Yb0 Zf0 Ze1 (loop Z7i))],nt:=61,pin:=0,nr:=true,ys:=[] }
theorem Z19:Sound Tryz.prog 14 (Znq) :=
 Sound.shp (C:=Za0) (fn:=Tryz.f14) (by kernel_rfl) (c:=bodyOf Tryz.f14) (by kernel_rfl) (by decide) (ctxOK mixed tbl_ok rfl ⟨Z41,Z5,Z36,Z25,Z30,trivial⟩ trivial) (SumOK.of ⟨(Yb2 (d:=.loop (loopOf 6 Tryz.f14)) (by kernel_rfl) Z7j),trivial⟩) (by kernel_rfl) Zgi Zk4 rfl (by decide) (by decide) rfl (by decide) rfl Z18 (fun x=>by kernel_rfl)
abbrev Zgl:Shape:={ sl:=[(0,(.hole y39)),(1,(.hole y12))],bl:=[],ts:=[y39,y12],pin:=0 }
abbrev Zk7:Shape:={ sl:=sl_1,bl:=[],ts:=ts_1,pin:=0 }
def Z1e (x:(T47 × T17)):Option (Bool) :=
 bif (decide (x.2.1 < (0:Int))) then
 some false
 else
 bif (decide (x.2.1 ≥ (((List.length x.1.2.2.2.2.2):Nat):Int))) then
 some false
 else
 bif (decide (x.2.2.1 < (0:Int))) then
 some false
 else
 bif (inb x.2.1 (List.length x.1.2.2.2.2.2)) then
 bif (decide (x.2.2.1 > (((List.length (getAt ([]:List T7) x.1.2.2.2.2.2 (toN x.2.1))):Nat):Int))) then
 some false
 else
 bif (decide (x.2.2.2.1 ≥ (0:Int))) then
 bif (decide (x.2.2.2.1 ≤ (2:Int))) then
 bif (inb x.2.1 (List.length x.1.2.2.2.2.2)) then
 some ((x.2.2.1 == (((List.length (getAt ([]:List T7) x.1.2.2.2.2.2 (toN x.2.1))):Nat):Int)) == (x.2.2.2.1 == (2:Int)))
 else
 none
 else
 some false
 else
 some false
 else
 none
abbrev Znt:=Spec.shp Zgl Zk7 Z1e
def Za4:Ctx:={ tb:=mkTb T2.tbl,fx:=[],sum:=[],nt:=57,pin:=0,nr:=true,ys:=[] }
theorem Z1f:Sound Tryz.prog 108 (Znt) :=
 Sound.shp (C:=Za4) (fn:=Tryz.f108) (by kernel_rfl) (c:=bodyOf Tryz.f108) (by kernel_rfl) (by decide) (ctxOK mixed tbl_ok rfl trivial trivial) (SumOK.of trivial) (by kernel_rfl) Zgl Zk7 rfl (by decide) (by decide) rfl (by decide) rfl Z1e (fun x=>by kernel_rfl)
abbrev Zgo:Shape:={ sl:=[(0,(.hole y12)),(1,(.ptr 0 []))],bl:=bl_0,ts:=[y12,y39],pin:=0 }
abbrev Zka:Shape:={ sl:=sl_1,bl:=bl_0,ts:=[.bool,y39],pin:=1 }
def Z1j (x:(T17 × T47)):Option (Bool × T47) :=
 (Z1e (x.2,x.1)).bind fun r11 =>
 some ((Bool.not r11),x.2)
abbrev Znw:=Spec.shp Zgo Zka Z1j
def Za8:Ctx:={ tb:=mkTb T2.tbl,fx:=[(108,[],Znt)],sum:=[],nt:=8,pin:=1,nr:=true,ys:=[] }
theorem Z1k:Sound Tryz.prog 107 (Znw) :=
 Sound.shp (C:=Za8) (fn:=Tryz.f107) (by kernel_rfl) (c:=bodyOf Tryz.f107) (by kernel_rfl) (by decide) (ctxOK mixed tbl_ok rfl ⟨Z1f,trivial⟩ trivial) (SumOK.of trivial) (by kernel_rfl) Zgo Zka rfl (by decide) (by decide) rfl (by decide) rfl Z1j (fun x=>by kernel_rfl)
abbrev Zfn:Shape:={ sl:=[(0,(.hole y18)),(1,(.fn 107 .nil (.cons (.ptr 0 []) .nil))),(7,(.hole (.int .i64))),(8,(.hole (.int .i64)))],bl:=bl_0,ts:=[y18,(.int .i64),(.int .i64),y39],pin:=1 }
abbrev Zeo:List (ETag × Shape):=[(.ret,{ sl:=sl_3,bl:=bl_0,ts:=[(.int .i64),y39],pin:=1 }),(.exit 0,{ sl:=[],bl:=bl_0,ts:=[y39],pin:=1 })]
def Z8t (x:(List (T17) × Int × Int × T47)):Option ((List (T17) × Int × Int × T47) ⊕ ((Int × T47) ⊕ (T47))) :=
 bif (decide (x.2.2.1 < x.2.1)) then
 bif (inb x.2.2.1 (List.length x.1)) then
 (Z1j ((getAt ((0:Int),(0:Int),(0:Int),false) x.1 (toN x.2.2.1)),x.2.2.2)).bind fun r10 =>
 bif r10.1 then
 some (.inr (.inl (x.2.2.1,r10.2)))
 else
 some (.inl (x.1,x.2.1,(IntKind.wrap .i64 (x.2.2.1+(1:Int))),r10.2))
 else
 none
 else
 some (.inr (.inr x.2.2.2))
def Zd8:Ctx:={ tb:=mkTb T2.tbl,fx:=[(107,[],Znw)],sum:=[],nt:=19,pin:=1,nr:=true,ys:=[] }
theorem Z8u:CSound Tryz.prog ⟨19,1,true⟩ (.loop (loopOf 3 Tryz.f156)) (Yb0 Zfn Zeo (loop Z8t)) :=
 Y8i (C:=Zd8) (ctxOK mixed tbl_ok rfl ⟨Z1k,trivial⟩ trivial) (SumOK.of trivial) Zfn Zeo rfl rfl Z8t (fun x=>by kernel_rfl)
abbrev Zj1:Shape:={ sl:=[(0,(.hole y18)),(1,(.fn 107 .nil (.cons (.ptr 0 []) .nil)))],bl:=bl_0,ts:=[y18,y39],pin:=0 }
abbrev Zmn:Shape:={ sl:=sl_2,bl:=bl_0,ts:=[(.int .i64),y39],pin:=1 }
def Z6c (x:(List (T17) × T47)):Option (Int × T47) :=
 (loop Z8t (x.1,(((List.length x.1):Nat):Int),(0:Int),x.2)).bind fun r9 =>
 match r9 with
 | .inl y10 =>
 some (y10.1,y10.2)
 | .inr y10 =>
 some ((Int.negSucc 0),y10)
abbrev Zq8:=Spec.shp Zj1 Zmn Z6c
def Zd7:Ctx:={ tb:=mkTb T2.tbl,fx:=[(107,[],Znw)],sum:=[(0,3,Yb0 Zfn Zeo (loop Z8t))],nt:=19,pin:=1,nr:=true,ys:=[] }
theorem Z6d:Sound Tryz.prog 156 (Zq8) :=
 Sound.shp (C:=Zd7) (fn:=Tryz.f156) (by kernel_rfl) (c:=bodyOf Tryz.f156) (by kernel_rfl) (by decide) (ctxOK mixed tbl_ok rfl ⟨Z1k,trivial⟩ trivial) (SumOK.of ⟨(Yb2 (d:=.loop (loopOf 3 Tryz.f156)) (by kernel_rfl) Z8u),trivial⟩) (by kernel_rfl) Zj1 Zmn rfl (by decide) (by decide) rfl (by decide) rfl Z6c (fun x=>by kernel_rfl)
abbrev Zis:Shape:={ sl:=[(0,(.hole y18)),(1,(.fn 107 .nil (.cons (.ptr 0 []) .nil)))],bl:=bl_0,ts:=[y18,y39],pin:=0 }
abbrev Zme:Shape:={ sl:=sl_1,bl:=bl_0,ts:=[.bool,y39],pin:=1 }
def Z5u (x:(List (T17) × T47)):Option (Bool × T47) :=
 (Z6c (x.1,x.2)).bind fun r8 =>
 some ((decide (r8.1 ≥ (0:Int))),r8.2)
abbrev Zpz:=Spec.shp Zis Zme Z5u
def Zcw:Ctx:={ tb:=mkTb T2.tbl,fx:=[(156,[107],Zq8)],sum:=[],nt:=9,pin:=1,nr:=true,ys:=[] }
theorem Z5v:Sound Tryz.prog 95 (Zpz) :=
 Sound.shp (C:=Zcw) (fn:=Tryz.f95) (by kernel_rfl) (c:=bodyOf Tryz.f95) (by kernel_rfl) (by decide) (ctxOK mixed tbl_ok rfl ⟨Z6d,trivial⟩ trivial) (SumOK.of trivial) (by kernel_rfl) Zis Zme rfl (by decide) (by decide) rfl (by decide) rfl Z5u (fun x=>by kernel_rfl)
abbrev Zig:Shape:={ sl:=[(0,(.hole y21))],bl:=[],ts:=[y21],pin:=0 }
abbrev Zm2:Shape:={ sl:=sl_1,bl:=[],ts:=ts_1,pin:=0 }
def Z56 (x:(T16)):Option (Bool) :=
 bif (decide (x.1 ≥ (0:Int))) then
 bif (decide (x.1 ≤ (8:Int))) then
 bif ((((List.length x.2.2.1):Nat):Int) == x.1) then
 bif (decide (x.2.2.2 ≥ (0:Int))) then
 bif (decide (x.2.2.2 ≤ x.1)) then
 bif (decide (x.2.1 ≥ (0:Int))) then
 some (decide (x.2.1 < (Max.max (1:Int) x.1)))
 else
 some false
 else
 some false
 else
 some false
 else
 some false
 else
 some false
 else
 some false
abbrev Zpn:=Spec.shp Zig Zm2 Z56
def Zcj:Ctx:={ tb:=mkTb T2.tbl,fx:=[],sum:=[],nt:=46,pin:=0,nr:=true,ys:=[] }
theorem Z57:Sound Tryz.prog 196 (Zpn) :=
 Sound.shp (C:=Zcj) (fn:=Tryz.f196) (by kernel_rfl) (c:=bodyOf Tryz.f196) (by kernel_rfl) (by decide) (ctxOK mixed tbl_ok rfl trivial trivial) (SumOK.of trivial) (by kernel_rfl) Zig Zm2 rfl (by decide) (by decide) rfl (by decide) rfl Z56 (fun x=>by kernel_rfl)
abbrev Zih:Shape:={ sl:=[(0,(.hole (.one y21)))],bl:=[],ts:=[(.one y21)],pin:=0 }
abbrev Zm3:Shape:={ sl:=[(0,(.fn 231 .nil (.cons (.ptr 0 []) .nil)))],bl:=[.var (.hole (.one y21))],ts:=[(.one y21)],pin:=0 }
def Z58 (x:(T16)):Option (T16) :=
 some x
abbrev Zpo:=Spec.shp Zih Zm3 Z58
def Zck:Ctx:={ tb:=mkTb T2.tbl,fx:=[],sum:=[],nt:=4,pin:=0,nr:=true,ys:=[] }
theorem Z5b:Sound Tryz.prog 197 (Zpo) :=
 Sound.shp (C:=Zck) (fn:=Tryz.f197) (by kernel_rfl) (c:=bodyOf Tryz.f197) (by kernel_rfl) (by decide) (ctxOK mixed tbl_ok rfl trivial trivial) (SumOK.of trivial) (by kernel_rfl) Zih Zm3 rfl (by decide) (by decide) rfl (by decide) rfl Z58 (fun x=>by kernel_rfl)
abbrev Zic:Shape:={ sl:=[(4,(.ptr 0 [])),(12,(.hole (.int .i64)))],bl:=[.var (.sl 1),.row (.int .i64)],ts:=[(.int .i64),y0],pin:=0 }
abbrev Zly:Shape:={ sl:=sl_2,bl:=[.var (.sl 1),.row (.int .i64)],ts:=[(.int .i64),y0],pin:=1 }
def Z4y (x:T3):Option T3 :=
 bif (fits ((List.length x.2)+(List.length (x.1 :: ([]:List Int))))) then
 some ((0:Int),(x.2++(x.1 :: ([]:List Int))))
 else
 none
def Zcf:Ctx:={ tb:=mkTb T2.tbl,fx:=[],sum:=[],nt:=18,pin:=1,nr:=false,ys:=[] }
theorem Z4z:YSound Tryz.prog 10485766 [4] (Spec.rnd [4,12] Zic Zly Z4y) :=
 YSound.rnd (C:=Zcf) (rt:=⟨rfPs (rfOf 6 Tryz.f160),rfAs (rfOf 6 Tryz.f160),rfBody (rfOf 6 Tryz.f160),18⟩) (by kernel_rfl) (ctxOK mixed tbl_ok rfl trivial) (SumOK.of trivial) (SumOK.of trivial) rfl rfl [4] Zic Zly rfl (by decide) (by decide) rfl (fun y=>⟨_,rfl⟩) (of_decide_eq_true (by kernel_rfl)) (of_decide_eq_true (by kernel_rfl)) Z4y (fun x=>by kernel_rfl)
abbrev Zij:Shape:={ sl:=[(0,(.hole (.one y21))),(1,(.hole (.int .i64)))],bl:=[],ts:=[(.one y21),(.int .i64)],pin:=0 }
abbrev Zm5:Shape:={ sl:=sl_2,bl:=[],ts:=ts_2,pin:=0 }
def Z5c (x:(T16 × Int)):Option (Int) :=
 bif (x.1.1 != (0:Int)) then
 some (Int.tmod (IntKind.wrap .i64 (x.1.2.1+x.2)) x.1.1)
 else
 none
abbrev Zpq:=Spec.shp Zij Zm5 Z5c
def Zcn:Ctx:={ tb:=mkTb T2.tbl,fx:=[],sum:=[],nt:=14,pin:=0,nr:=true,ys:=[] }
theorem Z5f:Sound Tryz.prog 232 (Zpq) :=
 Sound.shp (C:=Zcn) (fn:=Tryz.f232) (by kernel_rfl) (c:=bodyOf Tryz.f232) (by kernel_rfl) (by decide) (ctxOK mixed tbl_ok rfl trivial trivial) (SumOK.of trivial) (by kernel_rfl) Zij Zm5 rfl (by decide) (by decide) rfl (by decide) rfl Z5c (fun x=>by kernel_rfl)
abbrev Zfk:Shape:={ sl:=[(0,(.yl 0)),(1,(.ptr 1 [])),(6,(.hole (.int .i64))),(7,(.hole (.int .i64)))],bl:=bl_6,ts:=[(.int .i64),(.int .i64),(.one y21),y0],pin:=3 }
abbrev Zel:List (ETag × Shape):=[(.ret,{ sl:=[],bl:=bl_7,ts:=[(.int .i64),(.one y21),y0],pin:=3 }),(.exit 0,{ sl:=[],bl:=bl_6,ts:=[(.one y21),y0],pin:=3 })]
def Z8n (x:(Int × Int × T16 × List Int)):Option ((Int × Int × T16 × List Int) ⊕ (T33 ⊕ (T16 × List Int))) :=
 bif (decide (x.2.1 < x.1)) then
 (Z5c (x.2.2.1,x.2.1)).bind fun r15 =>
 bif (inb r15 (List.length x.2.2.1.2.2.1)) then
 (Z4y ((getAt (0:Int) x.2.2.1.2.2.1 (toN r15)),x.2.2.2)).bind fun r16 =>
 bif (eqI r16.1 (0:Int)) then
 some (.inl (x.1,(IntKind.wrap .i64 (x.2.1+(1:Int))),x.2.2.1,r16.2))
 else
 some (.inr (.inl (r16.1,x.2.2.1,r16.2)))
 else
 none
 else
 some (.inr (.inr (x.2.2.1,x.2.2.2)))
def Zcm:Ctx:={ tb:=mkTb T2.tbl,fx:=[(232,[],Zpq)],sum:=[],nt:=22,pin:=3,nr:=true,ys:=[(10485766,[4],Spec.rnd [4,12] { sl:=[(4,(.ptr 0 [])),(12,(.hole (.int .i64)))],bl:=[.var (.sl 1),.row (.int .i64)],ts:=[(.int .i64),(.slice (.int .i64))],pin:=0 } { sl:=[(0,(.hole (.int .i64)))],bl:=[.var (.sl 1),.row (.int .i64)],ts:=[(.int .i64),(.slice (.int .i64))],pin:=1 } Z4y)] }
theorem Z8o:CSound Tryz.prog ⟨22,3,true⟩ (.loop (loopOf 2 Tryz.f231)) (Yb0 Zfk Zel (loop Z8n)) :=
 Y8i (C:=Zcm) (ctxOK mixed tbl_ok rfl ⟨Z5f,trivial⟩ ⟨Z4z,trivial⟩) (SumOK.of trivial) Zfk Zel rfl rfl Z8n (fun x=>by kernel_rfl)
abbrev Zii:Shape:={ sl:=[(0,(.yl 0)),(1,(.ptr 1 []))],bl:=bl_6,ts:=[(.one y21),y0],pin:=0 }
abbrev Zm4:Shape:={ sl:=[],bl:=bl_7,ts:=[(.int .i64),(.one y21),y0],pin:=3 }
def Z59 (x:(T16 × List Int)):Option T33 :=
 (loop Z8n (x.1.2.2.2,(0:Int),x.1,x.2)).bind fun r14 =>
 match r14 with
 | .inl y15 =>
 some (y15.1,y15.2.1,y15.2.2)
 | .inr y15 =>
 some ((0:Int),y15.1,y15.2)
abbrev Zpp:=Spec.shp Zii Zm4 Z59
def Zcl:Ctx:={ tb:=mkTb T2.tbl,fx:=[(232,[],Zpq)],sum:=[(0,2,Yb0 Zfk Zel (loop Z8n))],nt:=22,pin:=3,nr:=true,ys:=[(10485766,[4],Spec.rnd [4,12] Zic Zly Z4y)] }
theorem Z5a:Sound Tryz.prog 231 (Zpp) :=
 Sound.shp (C:=Zcl) (fn:=Tryz.f231) (by kernel_rfl) (c:=bodyOf Tryz.f231) (by kernel_rfl) (by decide) (ctxOK mixed tbl_ok rfl ⟨Z5f,trivial⟩ ⟨Z4z,trivial⟩) (SumOK.of ⟨(Yb2 (d:=.loop (loopOf 2 Tryz.f231)) (by kernel_rfl) Z8o),trivial⟩) (by kernel_rfl) Zii Zm4 rfl (by decide) (by decide) rfl (by decide) rfl Z59 (fun x=>by kernel_rfl)
abbrev Zib:Shape:={ sl:=[(0,(.hole y21))],bl:=[],ts:=[y21],pin:=0 }
abbrev Zlx:Shape:={ sl:=sl_16,bl:=[],ts:=[y0,(.int .i64)],pin:=0 }
def Z4w (x:(T16)):Option T2 :=
 (Z56 x).bind fun r11 =>
 bif (Bool.not r11) then
 some (([]:List Int),(1:Int))
 else
 (Z58 x).bind fun r12 =>
 (Z59 (r12,([]:List Int))).bind fun r13 =>
 bif (eqI r13.1 (0:Int)) then
 some (r13.2.2,(0:Int))
 else
 bif (eqI r13.1 (1:Int)) then
 some (([]:List Int),(0:Int))
 else
 none
abbrev Zpj:=Spec.shp Zib Zlx Z4w
def Zce:Ctx:={ tb:=mkTb T2.tbl,fx:=[(196,[],Zpn),(197,[],Zpo)],sum:=[(3,6,Ybn (rfF (rfOf 6 Tryz.f160)) 10485766 [4] [] [(231,[11485766],Zpp)])],nt:=18,pin:=0,nr:=true,ys:=[] }
theorem Z4x:Sound Tryz.prog 160 (Zpj) :=
 Sound.shp (C:=Zce) (fn:=Tryz.f160) (by kernel_rfl) (c:=bodyOf Tryz.f160) (by kernel_rfl) (by decide) (ctxOK mixed tbl_ok rfl ⟨Z57,Z5b,trivial⟩ trivial) (SumOK.of ⟨(Yb2 (d:=rfOf 6 Tryz.f160) (by kernel_rfl) (Ybp (c:=rfOf 6 Tryz.f160) rfl (by kernel_rfl) Z5a [4] [])),trivial⟩) (by kernel_rfl) Zib Zlx rfl (by decide) (by decide) rfl (by decide) rfl Z4w (fun x=>by kernel_rfl)
abbrev Zjh:Shape:={ sl:=sl_17,bl:=[],ts:=[y5],pin:=0 }
abbrev Zn3:Shape:={ sl:=sl_1,bl:=[],ts:=ts_1,pin:=0 }
def Z7a (x:(T7)):Option (Bool) :=
 bif (decide (x.1 ≥ (0:Int))) then
 bif (decide (x.2.1 ≥ (0:Int))) then
 some (decide (x.2.2 ≥ (0:Int)))
 else
 some false
 else
 some false
abbrev Zqo:=Spec.shp Zjh Zn3 Z7a
def Zdw:Ctx:={ tb:=mkTb T2.tbl,fx:=[],sum:=[],nt:=16,pin:=0,nr:=true,ys:=[] }
theorem Z7b:Sound Tryz.prog 199 (Zqo) :=
 Sound.shp (C:=Zdw) (fn:=Tryz.f199) (by kernel_rfl) (c:=bodyOf Tryz.f199) (by kernel_rfl) (by decide) (ctxOK mixed tbl_ok rfl trivial trivial) (SumOK.of trivial) (by kernel_rfl) Zjh Zn3 rfl (by decide) (by decide) rfl (by decide) rfl Z7a (fun x=>by kernel_rfl)
abbrev Zjg:Shape:={ sl:=sl_17,bl:=[],ts:=[y5],pin:=0 }
abbrev Zn2:Shape:={ sl:=sl_1,bl:=[],ts:=ts_1,pin:=0 }
def Z77 (x:(T7)):Option (Bool) :=
 (Z7a x).bind fun r16 =>
 some (Bool.not r16)
abbrev Zqn:=Spec.shp Zjg Zn2 Z77
def Zdv:Ctx:={ tb:=mkTb T2.tbl,fx:=[(199,[],Zqo)],sum:=[],nt:=6,pin:=0,nr:=true,ys:=[] }
theorem Z78:Sound Tryz.prog 198 (Zqn) :=
 Sound.shp (C:=Zdv) (fn:=Tryz.f198) (by kernel_rfl) (c:=bodyOf Tryz.f198) (by kernel_rfl) (by decide) (ctxOK mixed tbl_ok rfl ⟨Z7b,trivial⟩ trivial) (SumOK.of trivial) (by kernel_rfl) Zjg Zn2 rfl (by decide) (by decide) rfl (by decide) rfl Z77 (fun x=>by kernel_rfl)
abbrev Zft:Shape:={ sl:=[(0,(.hole (.slice y5))),(1,(.fn 198 .nil .nil)),(7,(.hole (.int .i64))),(8,(.hole (.int .i64)))],bl:=[],ts:=[(.slice y5),(.int .i64),(.int .i64)],pin:=0 }
abbrev Zeu:List (ETag × Shape):=[(.ret,{ sl:=sl_3,bl:=[],ts:=ts_2,pin:=0 }),(.exit 0,{ sl:=[],bl:=[],ts:=[],pin:=0 })]
def Z95 (x:(List (T7) × Int × Int)):Option ((List (T7) × Int × Int) ⊕ ((Int) ⊕ Unit)) :=
 bif (decide (x.2.2 < x.2.1)) then
 bif (inb x.2.2 (List.length x.1)) then
 (Z77 (getAt ((0:Int),(0:Int),(0:Int)) x.1 (toN x.2.2))).bind fun r15 =>
 bif r15 then
 some (.inr (.inl x.2.2))
 else
 some (.inl (x.1,x.2.1,(IntKind.wrap .i64 (x.2.2+(1:Int)))))
 else
 none
 else
 some (.inr (.inr ()))
def Zdk:Ctx:={ tb:=mkTb T2.tbl,fx:=[(198,[],Zqn)],sum:=[],nt:=19,pin:=0,nr:=true,ys:=[] }
theorem Z96:CSound Tryz.prog ⟨19,0,true⟩ (.loop (loopOf 3 Tryz.f163)) (Yb0 Zft Zeu (loop Z95)) :=
 Y8i (C:=Zdk) (ctxOK mixed tbl_ok rfl ⟨Z78,trivial⟩ trivial) (SumOK.of trivial) Zft Zeu rfl rfl Z95 (fun x=>by kernel_rfl)
abbrev Zj7:Shape:={ sl:=[(0,(.hole (.slice y5))),(1,(.fn 198 .nil .nil))],bl:=[],ts:=[(.slice y5)],pin:=0 }
abbrev Zmt:Shape:={ sl:=sl_2,bl:=[],ts:=ts_2,pin:=0 }
def Z6o (x:(List (T7))):Option (Int) :=
 (loop Z95 (x,(((List.length x):Nat):Int),(0:Int))).bind fun r14 =>
 match r14 with
 | .inl y15 =>
 some y15
 | .inr y15 =>
 some (Int.negSucc 0)
abbrev Zqe:=Spec.shp Zj7 Zmt Z6o
def Zdj:Ctx:={ tb:=mkTb T2.tbl,fx:=[(198,[],Zqn)],sum:=[(0,3,Yb0 Zft Zeu (loop Z95))],nt:=19,pin:=0,nr:=true,ys:=[] }
theorem Z6p:Sound Tryz.prog 163 (Zqe) :=
 Sound.shp (C:=Zdj) (fn:=Tryz.f163) (by kernel_rfl) (c:=bodyOf Tryz.f163) (by kernel_rfl) (by decide) (ctxOK mixed tbl_ok rfl ⟨Z78,trivial⟩ trivial) (SumOK.of ⟨(Yb2 (d:=.loop (loopOf 3 Tryz.f163)) (by kernel_rfl) Z96),trivial⟩) (by kernel_rfl) Zj7 Zmt rfl (by decide) (by decide) rfl (by decide) rfl Z6o (fun x=>by kernel_rfl)
abbrev Ziw:Shape:={ sl:=[(0,(.hole (.slice y5))),(1,(.fn 198 .nil .nil))],bl:=[],ts:=[(.slice y5)],pin:=0 }
abbrev Zmi:Shape:={ sl:=sl_1,bl:=[],ts:=ts_1,pin:=0 }
def Z62 (x:(List (T7))):Option (Bool) :=
 (Z6o x).bind fun r13 =>
 some (decide (r13 ≥ (0:Int)))
abbrev Zq3:=Spec.shp Ziw Zmi Z62
def Zd0:Ctx:={ tb:=mkTb T2.tbl,fx:=[(163,[198],Zqe)],sum:=[],nt:=9,pin:=0,nr:=true,ys:=[] }
theorem Z63:Sound Tryz.prog 113 (Zq3) :=
 Sound.shp (C:=Zd0) (fn:=Tryz.f113) (by kernel_rfl) (c:=bodyOf Tryz.f113) (by kernel_rfl) (by decide) (ctxOK mixed tbl_ok rfl ⟨Z6p,trivial⟩ trivial) (SumOK.of trivial) (by kernel_rfl) Ziw Zmi rfl (by decide) (by decide) rfl (by decide) rfl Z62 (fun x=>by kernel_rfl)
abbrev Zfw:Shape:={ sl:=[(3,(.mp 0)),(7,(.hole (.slice y5))),(8,(.hole (.int .i64))),(9,(.hole (.int .i64)))],bl:=[.mp y4 (.int .i64)],ts:=[(.slice y5),(.int .i64),(.int .i64),(.slice y8)],pin:=0 }
abbrev Zex:List (ETag × Shape):=[(.exit 0,{ sl:=[(3,(.mp 0))],bl:=[.mp y4 (.int .i64)],ts:=[(.slice y8)],pin:=0 })]
def Z9b (x:(List (T7) × Int × Int × List (T8))):Option ((List (T7) × Int × Int × List (T8)) ⊕ (List (T8))) :=
 bif (decide (x.2.2.1 < x.2.1)) then
 bif (inb x.2.2.1 (List.length x.1)) then
 bif (inb (natI (@mpos (Int × Int) (Int) (Ty.beq y4) ((getAt ((0:Int),(0:Int),(0:Int)) x.1 (toN x.2.2.1)).1,(getAt ((0:Int),(0:Int),(0:Int)) x.1 (toN x.2.2.1)).2.1) x.2.2.2)) (List.length (@mput (Int × Int) (Int) (Ty.beq y4) ((getAt ((0:Int),(0:Int),(0:Int)) x.1 (toN x.2.2.1)).1,(getAt ((0:Int),(0:Int),(0:Int)) x.1 (toN x.2.2.1)).2.1) (@mlook (Int × Int) (Int) (Ty.beq y4) (Ty.zero (.int .i64)) ((getAt ((0:Int),(0:Int),(0:Int)) x.1 (toN x.2.2.1)).1,(getAt ((0:Int),(0:Int),(0:Int)) x.1 (toN x.2.2.1)).2.1) x.2.2.2) x.2.2.2))) then
 some (.inl (x.1,x.2.1,(IntKind.wrap .i64 (x.2.2.1+(1:Int))),(mset (@mput (Int × Int) (Int) (Ty.beq y4) ((getAt ((0:Int),(0:Int),(0:Int)) x.1 (toN x.2.2.1)).1,(getAt ((0:Int),(0:Int),(0:Int)) x.1 (toN x.2.2.1)).2.1) (@mlook (Int × Int) (Int) (Ty.beq y4) (Ty.zero (.int .i64)) ((getAt ((0:Int),(0:Int),(0:Int)) x.1 (toN x.2.2.1)).1,(getAt ((0:Int),(0:Int),(0:Int)) x.1 (toN x.2.2.1)).2.1) x.2.2.2) x.2.2.2) (toN (natI (@mpos (Int × Int) (Int) (Ty.beq y4) ((getAt ((0:Int),(0:Int),(0:Int)) x.1 (toN x.2.2.1)).1,(getAt ((0:Int),(0:Int),(0:Int)) x.1 (toN x.2.2.1)).2.1) x.2.2.2))) (IntKind.wrap .i64 ((@mlook (Int × Int) (Int) (Ty.beq y4) (Ty.zero (.int .i64)) ((getAt ((0:Int),(0:Int),(0:Int)) x.1 (toN x.2.2.1)).1,(getAt ((0:Int),(0:Int),(0:Int)) x.1 (toN x.2.2.1)).2.1) x.2.2.2)+(1:Int))))))
 else
 none
 else
 none
 else
 some (.inr x.2.2.2)
def Zdy:Ctx:={ tb:=mkTb T2.tbl,fx:=[],sum:=[],nt:=25,pin:=0,nr:=true,ys:=[] }
theorem Z9c:CSound Tryz.prog ⟨25,0,true⟩ (.loop (loopOf 4 Tryz.f200)) (Yb0 Zfw Zex (loop Z9b)) :=
 Y8i (C:=Zdy) (ctxOK mixed tbl_ok rfl trivial trivial) (SumOK.of trivial) Zfw Zex rfl rfl Z9b (fun x=>by kernel_rfl)
abbrev Zji:Shape:={ sl:=sl_18,bl:=[],ts:=[(.slice y5)],pin:=0 }
abbrev Zn4:Shape:={ sl:=[(0,(.mp 0))],bl:=[.mp y4 (.int .i64)],ts:=[(.slice y8)],pin:=0 }
def Z7c (x:(List (T7))):Option (List (T8)) :=
 (loop Z9b (x,(((List.length x):Nat):Int),(0:Int),([]:List T8))).bind fun r14 =>
 some r14
abbrev Zqp:=Spec.shp Zji Zn4 Z7c
def Zdx:Ctx:={ tb:=mkTb T2.tbl,fx:=[],sum:=[(0,4,Yb0 Zfw Zex (loop Z9b))],nt:=25,pin:=0,nr:=true,ys:=[] }
theorem Z7d:Sound Tryz.prog 200 (Zqp) :=
 Sound.shp (C:=Zdx) (fn:=Tryz.f200) (by kernel_rfl) (c:=bodyOf Tryz.f200) (by kernel_rfl) (by decide) (ctxOK mixed tbl_ok rfl trivial trivial) (SumOK.of ⟨(Yb2 (d:=.loop (loopOf 4 Tryz.f200)) (by kernel_rfl) Z9c),trivial⟩) (by kernel_rfl) Zji Zn4 rfl (by decide) (by decide) rfl (by decide) rfl Z7c (fun x=>by kernel_rfl)
abbrev Zjf:Shape:={ sl:=sl_18,bl:=[],ts:=[(.slice y5)],pin:=0 }
abbrev Zn1:Shape:={ sl:=sl_1,bl:=[],ts:=ts_1,pin:=0 }
def Z76 (x:(List (T7))):Option (Bool) :=
 (Z62 x).bind fun r12 =>
 bif r12 then
 some false
 else
 bif (decide ((((List.length x):Nat):Int) ≤ (64:Int))) then
 (Z7c x).bind fun r13 =>
 some ((((List.length r13):Nat):Int) == (((List.length x):Nat):Int))
 else
 some false
abbrev Zqm:=Spec.shp Zjf Zn1 Z76
def Zdu:Ctx:={ tb:=mkTb T2.tbl,fx:=[(113,[198],Zq3),(200,[],Zqp)],sum:=[],nt:=16,pin:=0,nr:=true,ys:=[] }
theorem Z79:Sound Tryz.prog 161 (Zqm) :=
 Sound.shp (C:=Zdu) (fn:=Tryz.f161) (by kernel_rfl) (c:=bodyOf Tryz.f161) (by kernel_rfl) (by decide) (ctxOK mixed tbl_ok rfl ⟨Z63,Z7d,trivial⟩ trivial) (SumOK.of trivial) (by kernel_rfl) Zjf Zn1 rfl (by decide) (by decide) rfl (by decide) rfl Z76 (fun x=>by kernel_rfl)
abbrev Zey:Shape:={ sl:=[(0,(.hole y0)),(1,(.hole (.int .i64))),(2,(.hole (.int .i64))),(9,(.hole y0)),(10,(.hole (.int .i64))),(11,(.hole (.int .i64)))],bl:=[],ts:=[y0,(.int .i64),(.int .i64),y0,(.int .i64),(.int .i64)],pin:=0 }
abbrev Zdz:List (ETag × Shape):=[(.ret,{ sl:=[(6,(.hole .bool))],bl:=[],ts:=ts_1,pin:=0 }),(.exit 0,{ sl:=sl_19,bl:=[],ts:=ts_3,pin:=0 })]
def Z7e (x:(List Int × Int × Int × List Int × Int × Int)):Option ((List Int × Int × Int × List Int × Int × Int) ⊕ ((Bool) ⊕ T9)) :=
 bif (decide (x.2.2.2.2.2 < x.2.2.2.2.1)) then
 bif (inb x.2.2.2.2.2 (List.length x.2.2.2.1)) then
 bif ((getAt (0:Int) x.2.2.2.1 (toN x.2.2.2.2.2)) != (IntKind.wrap .i64 (x.2.1+x.2.2.2.2.2))) then
 some (.inr (.inl false))
 else
 some (.inl (x.1,x.2.1,x.2.2.1,x.2.2.2.1,x.2.2.2.2.1,(IntKind.wrap .i64 (x.2.2.2.2.2+(1:Int)))))
 else
 none
 else
 some (.inr (.inr (x.1,x.2.1,x.2.2.1)))
def Z9m:Ctx:={ tb:=mkTb T2.tbl,fx:=[],sum:=[],nt:=28,pin:=0,nr:=true,ys:=[] }
theorem Z7f:CSound Tryz.prog ⟨28,0,true⟩ (.loop (loopOf 3 Tryz.f162)) (Yb0 Zey Zdz (loop Z7e)) :=
 Y8i (C:=Z9m) (ctxOK mixed tbl_ok rfl trivial trivial) (SumOK.of trivial) Zey Zdz rfl rfl Z7e (fun x=>by kernel_rfl)
abbrev Zg5:Shape:={ sl:=sl_19,bl:=[],ts:=ts_3,pin:=0 }
abbrev Zjr:Shape:={ sl:=sl_1,bl:=[],ts:=ts_1,pin:=0 }
def Zg (x:T9):Option (Bool) :=
 (loop Z7e (x.1,x.2.1,x.2.2,x.1,(((List.length x.1):Nat):Int),(0:Int))).bind fun r14 =>
 match r14 with
 | .inl y15 =>
 some y15
 | .inr y15 =>
 some ((((List.length y15.1):Nat):Int) == (IntKind.wrap .i64 (y15.2.2 - y15.2.1)))
abbrev Znd:=Spec.shp Zg5 Zjr Zg
def Z9l:Ctx:={ tb:=mkTb T2.tbl,fx:=[],sum:=[(0,3,Yb0 Zey Zdz (loop Z7e))],nt:=28,pin:=0,nr:=true,ys:=[] }
theorem Zh:Sound Tryz.prog 162 (Znd) :=
 Sound.shp (C:=Z9l) (fn:=Tryz.f162) (by kernel_rfl) (c:=bodyOf Tryz.f162) (by kernel_rfl) (by decide) (ctxOK mixed tbl_ok rfl trivial trivial) (SumOK.of ⟨(Yb2 (d:=.loop (loopOf 3 Tryz.f162)) (by kernel_rfl) Z7f),trivial⟩) (by kernel_rfl) Zg5 Zjr rfl (by decide) (by decide) rfl (by decide) rfl Zg (fun x=>by kernel_rfl)
abbrev Zg2:Shape:={ sl:=[(0,(.hole y40))],bl:=[],ts:=[y40],pin:=0 }
abbrev Zjo:Shape:={ sl:=sl_1,bl:=[],ts:=ts_1,pin:=0 }
def Za (x:T43):Option (Bool) :=
 (Z4w x.2.2.1).bind fun r10 =>
 bif (r10.2 != (0:Int)) then
 some false
 else
 bif (decide (x.1 < (Int.negSucc 0))) then
 some false
 else
 bif (decide (x.1 > (3:Int))) then
 some false
 else
 bif (x.2.2.1.1 != (Max.max x.1 (0:Int))) then
 some false
 else
 (Z76 x.2.2.2.2.2.1).bind fun r11 =>
 bif (Bool.not r11) then
 some false
 else
 (Z76 x.2.2.2.2.2.2).bind fun r12 =>
 bif (Bool.not r12) then
 some false
 else
 bif (decide (x.2.2.2.1 < (0:Int))) then
 some false
 else
 bif (decide (x.2.2.2.1 > (1048576:Int))) then
 some false
 else
 bif (decide (x.2.2.2.2.1 < (0:Int))) then
 some false
 else
 bif (decide (x.2.2.2.2.1 > x.2.2.2.1)) then
 some false
 else
 (Zg (r10.1,x.2.2.2.2.1,x.2.2.2.1)).bind fun r13 =>
 bif (Bool.not r13) then
 some false
 else
 bif (decide (x.1 < (0:Int))) then
 bif (Bool.not x.2.1) then
 bif (x.2.2.2.1 == (0:Int)) then
 bif (Bool.not (decide ((((List.length x.2.2.2.2.2.1):Nat):Int) > (0:Int)))) then
 some (Bool.not (decide ((((List.length x.2.2.2.2.2.2):Nat):Int) > (0:Int))))
 else
 some false
 else
 some false
 else
 some false
 else
 bif x.2.1 then
 bif (Bool.not (decide ((((List.length x.2.2.2.2.2.1):Nat):Int) > (0:Int)))) then
 some (Bool.not (decide ((((List.length x.2.2.2.2.2.2):Nat):Int) > (0:Int))))
 else
 some false
 else
 bif (Bool.not (decide ((((List.length x.2.2.2.2.2.1):Nat):Int) > (0:Int)))) then
 bif (Bool.not (decide ((((List.length x.2.2.2.2.2.2):Nat):Int) > (0:Int)))) then
 some true
 else
 some ((((List.length r10.1):Nat):Int) == (0:Int))
 else
 bif ((((List.length r10.1):Nat):Int) == x.1) then
 bif (Bool.not (decide ((((List.length x.2.2.2.2.2.2):Nat):Int) > (0:Int)))) then
 some true
 else
 some ((((List.length r10.1):Nat):Int) == (0:Int))
 else
 some false
abbrev Zna:=Spec.shp Zg2 Zjo Za
def Z9i:Ctx:={ tb:=mkTb T2.tbl,fx:=[(160,[],Zpj),(161,[],Zqm),(162,[],Znd)],sum:=[],nt:=130,pin:=0,nr:=true,ys:=[] }
theorem Zb:Sound Tryz.prog 112 (Zna) :=
 Sound.shp (C:=Z9i) (fn:=Tryz.f112) (by kernel_rfl) (c:=bodyOf Tryz.f112) (by kernel_rfl) (by decide) (ctxOK mixed tbl_ok rfl ⟨Z4x,Z79,Zh,trivial⟩ trivial) (SumOK.of trivial) (by kernel_rfl) Zg2 Zjo rfl (by decide) (by decide) rfl (by decide) rfl Za (fun x=>by kernel_rfl)
abbrev Zgp:Shape:={ sl:=[(0,(.hole .bool)),(1,(.ptr 0 [])),(2,(.ptr 1 []))],bl:=[.var (.hole y45),.var (.hole (.int .i64))],ts:=[.bool,y45,(.int .i64)],pin:=0 }
abbrev Zkb:Shape:={ sl:=[(0,(.fn 110 .nil (.cons (.ptr 0 []) (.cons (.ptr 1 []) (.cons (.ptr 2 []) .nil)))))],bl:=bl_8,ts:=[y45,(.int .i64),.bool],pin:=2 }
def Z1l (x:(Bool × (T47 × T61) × Int)):Option ((T47 × T61) × Int × Bool) :=
 some (x.2.1,x.2.2,x.1)
abbrev Znx:=Spec.shp Zgp Zkb Z1l
def Zaa:Ctx:={ tb:=mkTb T2.tbl,fx:=[],sum:=[],nt:=6,pin:=2,nr:=true,ys:=[] }
theorem Z1o:Sound Tryz.prog 109 (Znx) :=
 Sound.shp (C:=Zaa) (fn:=Tryz.f109) (by kernel_rfl) (c:=bodyOf Tryz.f109) (by kernel_rfl) (by decide) (ctxOK mixed tbl_ok rfl trivial trivial) (SumOK.of trivial) (by kernel_rfl) Zgp Zkb rfl (by decide) (by decide) rfl (by decide) rfl Z1l (fun x=>by kernel_rfl)
abbrev Zhk:Shape:={ sl:=[(0,(.hole y45)),(1,(.hole y5))],bl:=[],ts:=[y45,y5],pin:=0 }
abbrev Zl6:Shape:={ sl:=[(0,(.hole y5)),(1,(.hole .bool))],bl:=[],ts:=[y5,.bool],pin:=0 }
def Z3d (x:((T47 × T61) × T7)):Option (T7 × Bool) :=
 bif (decide (x.2.1 ≥ (((List.length x.1.2.1):Nat):Int))) then
 some (((0:Int),(0:Int),(0:Int)),false)
 else
 bif (inb x.2.1 (List.length x.1.2.1)) then
 bif ((getAt ((0:Int),(0:Int),(0:Int),false) x.1.2.1 (toN x.2.1)).2.2.1 != (1:Int)) then
 some (((0:Int),(0:Int),(0:Int)),false)
 else
 bif (inb x.2.1 (List.length x.1.2.1)) then
 bif (inb (getAt ((0:Int),(0:Int),(0:Int),false) x.1.2.1 (toN x.2.1)).1 (List.length x.1.1.2.2.2.2.2)) then
 bif (inb (getAt ((0:Int),(0:Int),(0:Int),false) x.1.2.1 (toN x.2.1)).2.1 (List.length (getAt ([]:List T7) x.1.1.2.2.2.2.2 (toN (getAt ((0:Int),(0:Int),(0:Int),false) x.1.2.1 (toN x.2.1)).1)))) then
 some ((getAt ((0:Int),(0:Int),(0:Int)) (getAt ([]:List T7) x.1.1.2.2.2.2.2 (toN (getAt ((0:Int),(0:Int),(0:Int),false) x.1.2.1 (toN x.2.1)).1)) (toN (getAt ((0:Int),(0:Int),(0:Int),false) x.1.2.1 (toN x.2.1)).2.1)),true)
 else
 none
 else
 none
 else
 none
 else
 none
abbrev Zos:=Spec.shp Zhk Zl6 Z3d
def Zbb:Ctx:={ tb:=mkTb T2.tbl,fx:=[],sum:=[],nt:=41,pin:=0,nr:=true,ys:=[] }
theorem Z3e:Sound Tryz.prog 116 (Zos) :=
 Sound.shp (C:=Zbb) (fn:=Tryz.f116) (by kernel_rfl) (c:=bodyOf Tryz.f116) (by kernel_rfl) (by decide) (ctxOK mixed tbl_ok rfl trivial trivial) (SumOK.of trivial) (by kernel_rfl) Zhk Zl6 rfl (by decide) (by decide) rfl (by decide) rfl Z3d (fun x=>by kernel_rfl)
abbrev Zgk:Shape:={ sl:=[(0,(.hole y45)),(1,(.hole y5)),(2,(.hole (.int .i64))),(3,(.hole .bool))],bl:=[],ts:=[y45,y5,(.int .i64),.bool],pin:=0 }
abbrev Zk6:Shape:={ sl:=sl_1,bl:=[],ts:=ts_1,pin:=0 }
def Z1c (x:((T47 × T61) × T7 × Int × Bool)):Option (Bool) :=
 (Z3d (x.1,x.2.1)).bind fun r16 =>
 bif (Bool.not r16.2) then
 some false
 else
 bif (r16.1.1 == (4:Int)) then
 bif (inb r16.1.2.1 (List.length x.1.1.2.2.2.2.1)) then
 bif (decide (x.2.1.2.1 < (((List.length (getAt (([]:List T0),false) x.1.1.2.2.2.2.1 (toN r16.1.2.1)).1):Nat):Int))) then
 bif (inb x.2.1.2.1 (List.length (getAt (([]:List T0),false) x.1.1.2.2.2.2.1 (toN r16.1.2.1)).1)) then
 some (((getAt (false,(0:Int)) (getAt (([]:List T0),false) x.1.1.2.2.2.2.1 (toN r16.1.2.1)).1 (toN x.2.1.2.1)).1 == (x.2.2.2,x.2.2.1).1) && ((getAt (false,(0:Int)) (getAt (([]:List T0),false) x.1.1.2.2.2.2.1 (toN r16.1.2.1)).1 (toN x.2.1.2.1)).2 == (x.2.2.2,x.2.2.1).2))
 else
 none
 else
 some false
 else
 none
 else
 bif x.2.2.2 then
 some ((r16.1.1 == ((1:Int),x.2.2.1,(0:Int)).1) && ((r16.1.2.1 == ((1:Int),x.2.2.1,(0:Int)).2.1) && (r16.1.2.2 == ((1:Int),x.2.2.1,(0:Int)).2.2)))
 else
 some ((r16.1.1 == ((2:Int),x.2.2.1,(0:Int)).1) && ((r16.1.2.1 == ((2:Int),x.2.2.1,(0:Int)).2.1) && (r16.1.2.2 == ((2:Int),x.2.2.1,(0:Int)).2.2)))
abbrev Zns:=Spec.shp Zgk Zk6 Z1c
def Za3:Ctx:={ tb:=mkTb T2.tbl,fx:=[(116,[],Zos)],sum:=[],nt:=59,pin:=0,nr:=true,ys:=[] }
theorem Z1d:Sound Tryz.prog 111 (Zns) :=
 Sound.shp (C:=Za3) (fn:=Tryz.f111) (by kernel_rfl) (c:=bodyOf Tryz.f111) (by kernel_rfl) (by decide) (ctxOK mixed tbl_ok rfl ⟨Z3e,trivial⟩ trivial) (SumOK.of trivial) (by kernel_rfl) Zgk Zk6 rfl (by decide) (by decide) rfl (by decide) rfl Z1c (fun x=>by kernel_rfl)
abbrev Zgq:Shape:={ sl:=sl_20,bl:=bl_8,ts:=[y5,y45,(.int .i64),.bool],pin:=0 }
abbrev Zkc:Shape:={ sl:=sl_1,bl:=bl_8,ts:=[.bool,y45,(.int .i64),.bool],pin:=3 }
def Z1m (x:(T7 × (T47 × T61) × Int × Bool)):Option (Bool × (T47 × T61) × Int × Bool) :=
 (Z1c (x.2.1,x.1,x.2.2.1,x.2.2.2)).bind fun r15 =>
 some ((Bool.not r15),x.2.1,x.2.2.1,x.2.2.2)
abbrev Zny:=Spec.shp Zgq Zkc Z1m
def Zac:Ctx:={ tb:=mkTb T2.tbl,fx:=[(111,[],Zns)],sum:=[],nt:=12,pin:=3,nr:=true,ys:=[] }
theorem Z1n:Sound Tryz.prog 110 (Zny) :=
 Sound.shp (C:=Zac) (fn:=Tryz.f110) (by kernel_rfl) (c:=bodyOf Tryz.f110) (by kernel_rfl) (by decide) (ctxOK mixed tbl_ok rfl ⟨Z1d,trivial⟩ trivial) (SumOK.of trivial) (by kernel_rfl) Zgq Zkc rfl (by decide) (by decide) rfl (by decide) rfl Z1m (fun x=>by kernel_rfl)
abbrev Zfp:Shape:={ sl:=[(0,(.hole (.slice y5))),(1,(.fn 110 .nil (.cons (.ptr 0 []) (.cons (.ptr 1 []) (.cons (.ptr 2 []) .nil))))),(7,(.hole (.int .i64))),(8,(.hole (.int .i64)))],bl:=bl_8,ts:=[(.slice y5),(.int .i64),(.int .i64),y45,(.int .i64),.bool],pin:=3 }
abbrev Zeq:List (ETag × Shape):=[(.ret,{ sl:=sl_3,bl:=bl_8,ts:=[(.int .i64),y45,(.int .i64),.bool],pin:=3 }),(.exit 0,{ sl:=[],bl:=bl_8,ts:=[y45,(.int .i64),.bool],pin:=3 })]
def Z8x (x:(List (T7) × Int × Int × (T47 × T61) × Int × Bool)):Option ((List (T7) × Int × Int × (T47 × T61) × Int × Bool) ⊕ ((Int × (T47 × T61) × Int × Bool) ⊕ ((T47 × T61) × Int × Bool))) :=
 bif (decide (x.2.2.1 < x.2.1)) then
 bif (inb x.2.2.1 (List.length x.1)) then
 (Z1m ((getAt ((0:Int),(0:Int),(0:Int)) x.1 (toN x.2.2.1)),x.2.2.2.1,x.2.2.2.2.1,x.2.2.2.2.2)).bind fun r14 =>
 bif r14.1 then
 some (.inr (.inl (x.2.2.1,r14.2.1,r14.2.2.1,r14.2.2.2)))
 else
 some (.inl (x.1,x.2.1,(IntKind.wrap .i64 (x.2.2.1+(1:Int))),r14.2.1,r14.2.2.1,r14.2.2.2))
 else
 none
 else
 some (.inr (.inr (x.2.2.2.1,x.2.2.2.2.1,x.2.2.2.2.2)))
def Zdc:Ctx:={ tb:=mkTb T2.tbl,fx:=[(110,[],Zny)],sum:=[],nt:=19,pin:=3,nr:=true,ys:=[] }
theorem Z8y:CSound Tryz.prog ⟨19,3,true⟩ (.loop (loopOf 3 Tryz.f163)) (Yb0 Zfp Zeq (loop Z8x)) :=
 Y8i (C:=Zdc) (ctxOK mixed tbl_ok rfl ⟨Z1n,trivial⟩ trivial) (SumOK.of trivial) Zfp Zeq rfl rfl Z8x (fun x=>by kernel_rfl)
abbrev Zj3:Shape:={ sl:=sl_21,bl:=bl_8,ts:=[(.slice y5),y45,(.int .i64),.bool],pin:=0 }
abbrev Zmp:Shape:={ sl:=sl_2,bl:=bl_8,ts:=[(.int .i64),y45,(.int .i64),.bool],pin:=3 }
def Z6g (x:(List (T7) × (T47 × T61) × Int × Bool)):Option (Int × (T47 × T61) × Int × Bool) :=
 (loop Z8x (x.1,(((List.length x.1):Nat):Int),(0:Int),x.2.1,x.2.2.1,x.2.2.2)).bind fun r13 =>
 match r13 with
 | .inl y14 =>
 some (y14.1,y14.2.1,y14.2.2.1,y14.2.2.2)
 | .inr y14 =>
 some ((Int.negSucc 0),y14.1,y14.2.1,y14.2.2)
abbrev Zqa:=Spec.shp Zj3 Zmp Z6g
def Zdb:Ctx:={ tb:=mkTb T2.tbl,fx:=[(110,[],Zny)],sum:=[(0,3,Yb0 Zfp Zeq (loop Z8x))],nt:=19,pin:=3,nr:=true,ys:=[] }
theorem Z6h:Sound Tryz.prog 163 (Zqa) :=
 Sound.shp (C:=Zdb) (fn:=Tryz.f163) (by kernel_rfl) (c:=bodyOf Tryz.f163) (by kernel_rfl) (by decide) (ctxOK mixed tbl_ok rfl ⟨Z1n,trivial⟩ trivial) (SumOK.of ⟨(Yb2 (d:=.loop (loopOf 3 Tryz.f163)) (by kernel_rfl) Z8y),trivial⟩) (by kernel_rfl) Zj3 Zmp rfl (by decide) (by decide) rfl (by decide) rfl Z6g (fun x=>by kernel_rfl)
abbrev Ziu:Shape:={ sl:=sl_21,bl:=bl_8,ts:=[(.slice y5),y45,(.int .i64),.bool],pin:=0 }
abbrev Zmg:Shape:={ sl:=sl_1,bl:=bl_8,ts:=[.bool,y45,(.int .i64),.bool],pin:=3 }
def Z5y (x:(List (T7) × (T47 × T61) × Int × Bool)):Option (Bool × (T47 × T61) × Int × Bool) :=
 (Z6g (x.1,x.2.1,x.2.2.1,x.2.2.2)).bind fun r12 =>
 some ((decide (r12.1 ≥ (0:Int))),r12.2.1,r12.2.2.1,r12.2.2.2)
abbrev Zq1:=Spec.shp Ziu Zmg Z5y
def Zcy:Ctx:={ tb:=mkTb T2.tbl,fx:=[(163,[110],Zqa)],sum:=[],nt:=9,pin:=3,nr:=true,ys:=[] }
theorem Z5z:Sound Tryz.prog 113 (Zq1) :=
 Sound.shp (C:=Zcy) (fn:=Tryz.f113) (by kernel_rfl) (c:=bodyOf Tryz.f113) (by kernel_rfl) (by decide) (ctxOK mixed tbl_ok rfl ⟨Z6h,trivial⟩ trivial) (SumOK.of trivial) (by kernel_rfl) Ziu Zmg rfl (by decide) (by decide) rfl (by decide) rfl Z5y (fun x=>by kernel_rfl)
abbrev Zf4:Shape:={ sl:=[(1,(.ptr 0 [])),(3,(.ptr 1 [])),(64,(.hole y41)),(65,(.hole (.int .i64))),(66,(.hole (.int .i64)))],bl:=[.var (.hole y45),.var (.hole y39)],ts:=[y41,(.int .i64),(.int .i64),y45,y39],pin:=0 }
abbrev Ze5:List (ETag × Shape):=[(.ret,{ sl:=[(2,(.hole .bool))],bl:=[],ts:=ts_1,pin:=0 }),(.exit 0,{ sl:=[(1,(.ptr 0 []))],bl:=bl_9,ts:=[y45],pin:=0 })]
def Z7q (x:(List T43 × Int × Int × (T47 × T61) × T47)):Option ((List T43 × Int × Int × (T47 × T61) × T47) ⊕ ((Bool) ⊕ T62)) :=
 bif (decide (x.2.2.1 < x.2.1)) then
 bif (inb x.2.2.1 (List.length x.1)) then
 (Za (getAt ((0:Int),false,((0:Int),(0:Int),([]:List Int),(0:Int)),(0:Int),(0:Int),([]:List T7),([]:List T7)) x.1 (toN x.2.2.1))).bind fun r9 =>
 bif (Bool.not r9) then
 some (.inr (.inl false))
 else
 bif (inb x.2.2.1 (List.length x.2.2.2.2.1)) then
 bif ((getAt ((0:Int),false,((0:Int),(0:Int),([]:List Int),(0:Int)),(0:Int),(0:Int),([]:List T7),([]:List T7)) x.1 (toN x.2.2.1)).1 != (getAt (0:Int) x.2.2.2.2.1 (toN x.2.2.1))) then
 some (.inr (.inl false))
 else
 (Z1l (true,x.2.2.2.1,x.2.2.1)).bind fun r10 =>
 (Z5y ((getAt ((0:Int),false,((0:Int),(0:Int),([]:List Int),(0:Int)),(0:Int),(0:Int),([]:List T7),([]:List T7)) x.1 (toN x.2.2.1)).2.2.2.2.2.1,r10.1,r10.2.1,r10.2.2)).bind fun r11 =>
 bif r11.1 then
 some (.inr (.inl false))
 else
 (Z1l (false,r11.2.1,r11.2.2.1)).bind fun r12 =>
 (Z5y ((getAt ((0:Int),false,((0:Int),(0:Int),([]:List Int),(0:Int)),(0:Int),(0:Int),([]:List T7),([]:List T7)) x.1 (toN x.2.2.1)).2.2.2.2.2.2,r12.1,r12.2.1,r12.2.2)).bind fun r13 =>
 bif r13.1 then
 some (.inr (.inl false))
 else
 some (.inl (x.1,x.2.1,(IntKind.wrap .i64 (x.2.2.1+(1:Int))),r13.2.1,x.2.2.2.2))
 else
 none
 else
 none
 else
 some (.inr (.inr x.2.2.2.1))
def Zaf:Ctx:={ tb:=mkTb T2.tbl,fx:=[(38,[],Zp3),(95,[107],Zpz),(112,[],Zna),(109,[],Znx),(113,[110],Zq1)],sum:=[],nt:=141,pin:=0,nr:=true,ys:=[] }
theorem Z7r:CSound Tryz.prog ⟨141,0,true⟩ (.loop (loopOf 8 Tryz.f57)) (Yb0 Zf4 Ze5 (loop Z7q)) :=
 Y8i (C:=Zaf) (ctxOK mixed tbl_ok rfl ⟨Z41,Z5v,Zb,Z1o,Z5z,trivial⟩ trivial) (SumOK.of trivial) Zf4 Ze5 rfl rfl Z7q (fun x=>by kernel_rfl)
abbrev Zge:Shape:={ sl:=[(0,(.hole y15))],bl:=[],ts:=[y15],pin:=0 }
abbrev Zk0:Shape:={ sl:=sl_1,bl:=[],ts:=ts_1,pin:=0 }
def Z10 (x:(T18)):Option (Bool) :=
 (Z76 x.2).bind fun r12 =>
 bif r12 then
 bif x.1 then
 some true
 else
 some ((((List.length x.2):Nat):Int) == (0:Int))
 else
 some false
abbrev Znm:=Spec.shp Zge Zk0 Z10
def Z9v:Ctx:={ tb:=mkTb T2.tbl,fx:=[(161,[],Zqm)],sum:=[],nt:=16,pin:=0,nr:=true,ys:=[] }
theorem Z11:Sound Tryz.prog 117 (Znm) :=
 Sound.shp (C:=Z9v) (fn:=Tryz.f117) (by kernel_rfl) (c:=bodyOf Tryz.f117) (by kernel_rfl) (by decide) (ctxOK mixed tbl_ok rfl ⟨Z79,trivial⟩ trivial) (SumOK.of trivial) (by kernel_rfl) Zge Zk0 rfl (by decide) (by decide) rfl (by decide) rfl Z10 (fun x=>by kernel_rfl)
abbrev Zgr:Shape:={ sl:=[(0,(.hole (.int .i64))),(1,(.hole (.int .i64))),(2,(.ptr 0 []))],bl:=bl_9,ts:=[(.int .i64),(.int .i64),y45],pin:=0 }
abbrev Zkd:Shape:={ sl:=[(0,(.fn 115 .nil (.cons (.ptr 0 []) (.cons (.ptr 1 []) (.cons (.ptr 2 []) .nil)))))],bl:=bl_10,ts:=[y45,(.int .i64),(.int .i64)],pin:=1 }
def Z1p (x:(Int × Int × (T47 × T61))):Option ((T47 × T61) × Int × Int) :=
 some (x.2.2,x.1,x.2.1)
abbrev Znz:=Spec.shp Zgr Zkd Z1p
def Zad:Ctx:={ tb:=mkTb T2.tbl,fx:=[],sum:=[],nt:=7,pin:=1,nr:=true,ys:=[] }
theorem Z1s:Sound Tryz.prog 114 (Znz) :=
 Sound.shp (C:=Zad) (fn:=Tryz.f114) (by kernel_rfl) (c:=bodyOf Tryz.f114) (by kernel_rfl) (by decide) (ctxOK mixed tbl_ok rfl trivial trivial) (SumOK.of trivial) (by kernel_rfl) Zgr Zkd rfl (by decide) (by decide) rfl (by decide) rfl Z1p (fun x=>by kernel_rfl)
abbrev Zgs:Shape:={ sl:=sl_20,bl:=bl_10,ts:=[y5,y45,(.int .i64),(.int .i64)],pin:=0 }
abbrev Zke:Shape:={ sl:=sl_1,bl:=bl_10,ts:=[.bool,y45,(.int .i64),(.int .i64)],pin:=3 }
def Z1q (x:(T7 × (T47 × T61) × Int × Int)):Option (Bool × (T47 × T61) × Int × Int) :=
 (Z3d (x.2.1,x.1)).bind fun r17 =>
 bif (Bool.not r17.2) then
 some (true,x.2.1,x.2.2.1,x.2.2.2)
 else
 bif (r17.1.1 != x.2.2.1) then
 some (true,x.2.1,x.2.2.1,x.2.2.2)
 else
 some ((r17.1.2.1 != x.2.2.2),x.2.1,x.2.2.1,x.2.2.2)
abbrev Zo0:=Spec.shp Zgs Zke Z1q
def Zae:Ctx:={ tb:=mkTb T2.tbl,fx:=[(116,[],Zos)],sum:=[],nt:=28,pin:=3,nr:=true,ys:=[] }
theorem Z1r:Sound Tryz.prog 115 (Zo0) :=
 Sound.shp (C:=Zae) (fn:=Tryz.f115) (by kernel_rfl) (c:=bodyOf Tryz.f115) (by kernel_rfl) (by decide) (ctxOK mixed tbl_ok rfl ⟨Z3e,trivial⟩ trivial) (SumOK.of trivial) (by kernel_rfl) Zgs Zke rfl (by decide) (by decide) rfl (by decide) rfl Z1q (fun x=>by kernel_rfl)
abbrev Zfq:Shape:={ sl:=[(0,(.hole (.slice y5))),(1,(.fn 115 .nil (.cons (.ptr 0 []) (.cons (.ptr 1 []) (.cons (.ptr 2 []) .nil))))),(7,(.hole (.int .i64))),(8,(.hole (.int .i64)))],bl:=bl_10,ts:=[(.slice y5),(.int .i64),(.int .i64),y45,(.int .i64),(.int .i64)],pin:=3 }
abbrev Zer:List (ETag × Shape):=[(.ret,{ sl:=sl_3,bl:=bl_10,ts:=[(.int .i64),y45,(.int .i64),(.int .i64)],pin:=3 }),(.exit 0,{ sl:=[],bl:=bl_10,ts:=[y45,(.int .i64),(.int .i64)],pin:=3 })]
def Z8z (x:(List (T7) × Int × Int × (T47 × T61) × Int × Int)):Option ((List (T7) × Int × Int × (T47 × T61) × Int × Int) ⊕ ((Int × (T47 × T61) × Int × Int) ⊕ ((T47 × T61) × Int × Int))) :=
 bif (decide (x.2.2.1 < x.2.1)) then
 bif (inb x.2.2.1 (List.length x.1)) then
 (Z1q ((getAt ((0:Int),(0:Int),(0:Int)) x.1 (toN x.2.2.1)),x.2.2.2.1,x.2.2.2.2.1,x.2.2.2.2.2)).bind fun r16 =>
 bif r16.1 then
 some (.inr (.inl (x.2.2.1,r16.2.1,r16.2.2.1,r16.2.2.2)))
 else
 some (.inl (x.1,x.2.1,(IntKind.wrap .i64 (x.2.2.1+(1:Int))),r16.2.1,r16.2.2.1,r16.2.2.2))
 else
 none
 else
 some (.inr (.inr (x.2.2.2.1,x.2.2.2.2.1,x.2.2.2.2.2)))
def Zde:Ctx:={ tb:=mkTb T2.tbl,fx:=[(115,[],Zo0)],sum:=[],nt:=19,pin:=3,nr:=true,ys:=[] }
theorem Z90:CSound Tryz.prog ⟨19,3,true⟩ (.loop (loopOf 3 Tryz.f163)) (Yb0 Zfq Zer (loop Z8z)) :=
 Y8i (C:=Zde) (ctxOK mixed tbl_ok rfl ⟨Z1r,trivial⟩ trivial) (SumOK.of trivial) Zfq Zer rfl rfl Z8z (fun x=>by kernel_rfl)
abbrev Zj4:Shape:={ sl:=sl_22,bl:=bl_10,ts:=[(.slice y5),y45,(.int .i64),(.int .i64)],pin:=0 }
abbrev Zmq:Shape:={ sl:=sl_2,bl:=bl_10,ts:=[(.int .i64),y45,(.int .i64),(.int .i64)],pin:=3 }
def Z6i (x:(List (T7) × (T47 × T61) × Int × Int)):Option (Int × (T47 × T61) × Int × Int) :=
 (loop Z8z (x.1,(((List.length x.1):Nat):Int),(0:Int),x.2.1,x.2.2.1,x.2.2.2)).bind fun r15 =>
 match r15 with
 | .inl y16 =>
 some (y16.1,y16.2.1,y16.2.2.1,y16.2.2.2)
 | .inr y16 =>
 some ((Int.negSucc 0),y16.1,y16.2.1,y16.2.2)
abbrev Zqb:=Spec.shp Zj4 Zmq Z6i
def Zdd:Ctx:={ tb:=mkTb T2.tbl,fx:=[(115,[],Zo0)],sum:=[(0,3,Yb0 Zfq Zer (loop Z8z))],nt:=19,pin:=3,nr:=true,ys:=[] }
theorem Z6j:Sound Tryz.prog 163 (Zqb) :=
 Sound.shp (C:=Zdd) (fn:=Tryz.f163) (by kernel_rfl) (c:=bodyOf Tryz.f163) (by kernel_rfl) (by decide) (ctxOK mixed tbl_ok rfl ⟨Z1r,trivial⟩ trivial) (SumOK.of ⟨(Yb2 (d:=.loop (loopOf 3 Tryz.f163)) (by kernel_rfl) Z90),trivial⟩) (by kernel_rfl) Zj4 Zmq rfl (by decide) (by decide) rfl (by decide) rfl Z6i (fun x=>by kernel_rfl)
abbrev Ziv:Shape:={ sl:=sl_22,bl:=bl_10,ts:=[(.slice y5),y45,(.int .i64),(.int .i64)],pin:=0 }
abbrev Zmh:Shape:={ sl:=sl_1,bl:=bl_10,ts:=[.bool,y45,(.int .i64),(.int .i64)],pin:=3 }
def Z60 (x:(List (T7) × (T47 × T61) × Int × Int)):Option (Bool × (T47 × T61) × Int × Int) :=
 (Z6i (x.1,x.2.1,x.2.2.1,x.2.2.2)).bind fun r14 =>
 some ((decide (r14.1 ≥ (0:Int))),r14.2.1,r14.2.2.1,r14.2.2.2)
abbrev Zq2:=Spec.shp Ziv Zmh Z60
def Zcz:Ctx:={ tb:=mkTb T2.tbl,fx:=[(163,[115],Zqb)],sum:=[],nt:=9,pin:=3,nr:=true,ys:=[] }
theorem Z61:Sound Tryz.prog 113 (Zq2) :=
 Sound.shp (C:=Zcz) (fn:=Tryz.f113) (by kernel_rfl) (c:=bodyOf Tryz.f113) (by kernel_rfl) (by decide) (ctxOK mixed tbl_ok rfl ⟨Z6j,trivial⟩ trivial) (SumOK.of trivial) (by kernel_rfl) Ziv Zmh rfl (by decide) (by decide) rfl (by decide) rfl Z60 (fun x=>by kernel_rfl)
abbrev Zf2:Shape:={ sl:=[(1,(.ptr 0 [])),(7,(.fn 114 .nil (.cons (.ptr 0 []) .nil))),(102,(.hole y19)),(103,(.hole (.int .i64))),(104,(.hole (.int .i64)))],bl:=bl_9,ts:=[y19,(.int .i64),(.int .i64),y45],pin:=0 }
abbrev Ze3:List (ETag × Shape):=[(.ret,{ sl:=[(2,(.hole .bool))],bl:=[],ts:=ts_1,pin:=0 }),(.exit 2,{ sl:=[(1,(.ptr 0 [])),(7,(.fn 114 .nil (.cons (.ptr 0 []) .nil)))],bl:=bl_9,ts:=[y45],pin:=0 })]
def Z7m (x:(List (T18) × Int × Int × (T47 × T61))):Option ((List (T18) × Int × Int × (T47 × T61)) ⊕ ((Bool) ⊕ T62)) :=
 bif (decide (x.2.2.1 < x.2.1)) then
 bif (inb x.2.2.1 (List.length x.1)) then
 (Z10 (getAt (false,([]:List T7)) x.1 (toN x.2.2.1))).bind fun r11 =>
 bif (Bool.not r11) then
 some (.inr (.inl false))
 else
 (Z1p ((5:Int),x.2.2.1,x.2.2.2)).bind fun r12 =>
 (Z60 ((getAt (false,([]:List T7)) x.1 (toN x.2.2.1)).2,r12.1,r12.2.1,r12.2.2)).bind fun r13 =>
 bif r13.1 then
 some (.inr (.inl false))
 else
 some (.inl (x.1,x.2.1,(IntKind.wrap .i64 (x.2.2.1+(1:Int))),r13.2.1))
 else
 none
 else
 some (.inr (.inr x.2.2.2))
def Za9:Ctx:={ tb:=mkTb T2.tbl,fx:=[(38,[],Zp3),(95,[107],Zpz),(112,[],Zna),(109,[],Znx),(113,[110],Zq1),(117,[],Znm),(114,[],Znz),(113,[115],Zq2)],sum:=[(0,8,Yb0 Zf4 Ze5 (loop Z7q))],nt:=141,pin:=0,nr:=true,ys:=[] }
theorem Z7n:CSound Tryz.prog ⟨141,0,true⟩ (.loop (loopOf 16 Tryz.f57)) (Yb0 Zf2 Ze3 (loop Z7m)) :=
 Y8i (C:=Za9) (ctxOK mixed tbl_ok rfl ⟨Z41,Z5v,Zb,Z1o,Z5z,Z11,Z1s,Z61,trivial⟩ trivial) (SumOK.of ⟨(Yb1 (by kernel_rfl)),trivial⟩) Zf2 Ze3 rfl rfl Z7m (fun x=>by kernel_rfl)
abbrev Zip:Shape:={ sl:=sl_18,bl:=[],ts:=[(.slice y5)],pin:=0 }
abbrev Zmb:Shape:={ sl:=[(0,(.sl 0))],bl:=[.row y5],ts:=[(.slice y5)],pin:=0 }
def Z5o (x:(List (T7))):Option (List (T7)) :=
 bif (@Nat.beq (List.length x) (0:Nat)) then
 amb (
 some ([]:List T7)) (
 bif (fits ((List.length ([]:List T7))+(List.length x))) then
 some (([]:List T7)++x)
 else
 none)
 else
 bif (fits ((List.length ([]:List T7))+(List.length x))) then
 some (([]:List T7)++x)
 else
 none
abbrev Zpw:=Spec.shp Zip Zmb Z5o
def Zct:Ctx:={ tb:=mkTb T2.tbl,fx:=[],sum:=[],nt:=8,pin:=0,nr:=true,ys:=[] }
theorem Z5p:Sound Tryz.prog 202 (Zpw) :=
 Sound.shp (C:=Zct) (fn:=Tryz.f202) (by kernel_rfl) (c:=bodyOf Tryz.f202) (by kernel_rfl) (by decide) (ctxOK mixed tbl_ok rfl trivial trivial) (SumOK.of trivial) (by kernel_rfl) Zip Zmb rfl (by decide) (by decide) rfl (by decide) rfl Z5o (fun x=>by kernel_rfl)
abbrev Zjb:Shape:={ sl:=[(0,(.hole y5)),(1,(.ptr 0 []))],bl:=bl_3,ts:=[y5,(.int .i64)],pin:=0 }
abbrev Zmx:Shape:={ sl:=sl_1,bl:=bl_3,ts:=[.bool,(.int .i64)],pin:=1 }
def Z6v (x:(T7 × Int)):Option T0 :=
 some ((x.1.1 == x.2),x.2)
abbrev Zqi:=Spec.shp Zjb Zmx Z6v
def Zdq:Ctx:={ tb:=mkTb T2.tbl,fx:=[],sum:=[],nt:=8,pin:=1,nr:=true,ys:=[] }
theorem Z6w:Sound Tryz.prog 203 (Zqi) :=
 Sound.shp (C:=Zdq) (fn:=Tryz.f203) (by kernel_rfl) (c:=bodyOf Tryz.f203) (by kernel_rfl) (by decide) (ctxOK mixed tbl_ok rfl trivial trivial) (SumOK.of trivial) (by kernel_rfl) Zjb Zmx rfl (by decide) (by decide) rfl (by decide) rfl Z6v (fun x=>by kernel_rfl)
theorem Z6x:Sound Tryz.prog 203 (Spec.shpR Zjb Zmx Z6v) :=
 Sound.shpR (fun x y h=>by have h:=Option.some.inj h; subst h; rfl) Z6w
abbrev Zfr:Shape:={ sl:=[(0,(.sl 0)),(1,(.fn 203 .nil (.cons (.ptr 1 []) .nil))),(7,(.hole (.int .i64))),(8,(.hole (.int .i64)))],bl:=bl_11,ts:=[(.int .i64),(.int .i64),(.slice y5),(.int .i64)],pin:=2 }
abbrev Zes:List (ETag × Shape):=[(.ret,{ sl:=sl_3,bl:=bl_11,ts:=[(.int .i64),(.slice y5),(.int .i64)],pin:=2 }),(.exit 0,{ sl:=[],bl:=bl_11,ts:=ts_12,pin:=2 })]
def Z91 (x:(Int × Int × List (T7) × Int)):Option ((Int × Int × List (T7) × Int) ⊕ ((Int × List (T7) × Int) ⊕ T15)) :=
 bif (decide (x.2.1 < x.1)) then
 bif (inb x.2.1 (List.length x.2.2.1)) then
 (Z6v ((getAt ((0:Int),(0:Int),(0:Int)) x.2.2.1 (toN x.2.1)),x.2.2.2)).bind fun r21 =>
 bif r21.1 then
 some (.inr (.inl (x.2.1,x.2.2.1,x.2.2.2)))
 else
 some (.inl (x.1,(IntKind.wrap .i64 (x.2.1+(1:Int))),x.2.2.1,x.2.2.2))
 else
 none
 else
 some (.inr (.inr (x.2.2.1,x.2.2.2)))
def Zdg:Ctx:={ tb:=mkTb T2.tbl,fx:=[(203,[],Spec.shpR Zjb Zmx Z6v)],sum:=[],nt:=19,pin:=2,nr:=true,ys:=[] }
theorem Z92:CSound Tryz.prog ⟨19,2,true⟩ (.loop (loopOf 3 Tryz.f163)) (Yb0 Zfr Zes (loop Z91)) :=
 Y8i (C:=Zdg) (ctxOK mixed tbl_ok rfl ⟨Z6x,trivial⟩ trivial) (SumOK.of trivial) Zfr Zes rfl rfl Z91 (fun x=>by kernel_rfl)
abbrev Zj5:Shape:={ sl:=[(0,(.sl 0)),(1,(.fn 203 .nil (.cons (.ptr 1 []) .nil)))],bl:=bl_11,ts:=ts_12,pin:=0 }
abbrev Zmr:Shape:={ sl:=sl_2,bl:=bl_11,ts:=[(.int .i64),(.slice y5),(.int .i64)],pin:=2 }
def Z6k (x:T15):Option (Int × List (T7) × Int) :=
 (loop Z91 ((((List.length x.1):Nat):Int),(0:Int),x.1,x.2)).bind fun r20 =>
 match r20 with
 | .inl y21 =>
 some (y21.1,y21.2.1,y21.2.2)
 | .inr y21 =>
 some ((Int.negSucc 0),y21.1,y21.2)
abbrev Zqc:=Spec.shp Zj5 Zmr Z6k
def Zdf:Ctx:={ tb:=mkTb T2.tbl,fx:=[(203,[],Spec.shpR Zjb Zmx Z6v)],sum:=[(0,3,Yb0 Zfr Zes (loop Z91))],nt:=19,pin:=2,nr:=true,ys:=[] }
theorem Z6l:Sound Tryz.prog 163 (Zqc) :=
 Sound.shp (C:=Zdf) (fn:=Tryz.f163) (by kernel_rfl) (c:=bodyOf Tryz.f163) (by kernel_rfl) (by decide) (ctxOK mixed tbl_ok rfl ⟨Z6x,trivial⟩ trivial) (SumOK.of ⟨(Yb2 (d:=.loop (loopOf 3 Tryz.f163)) (by kernel_rfl) Z92),trivial⟩) (by kernel_rfl) Zj5 Zmr rfl (by decide) (by decide) rfl (by decide) rfl Z6k (fun x=>by kernel_rfl)
abbrev Zfl:Shape:={ sl:=[(0,(.sl 1)),(1,(.fn 203 .nil (.cons (.ptr 0 []) .nil))),(5,(.hole (.int .i64))),(6,(.hole (.int .i64)))],bl:=[.var (.hole (.int .i64)),.row y5],ts:=[(.int .i64),(.int .i64),(.int .i64),(.slice y5)],pin:=1 }
abbrev Zem:List (ETag × Shape):=[(.exit 0,{ sl:=[(0,(.sl 1)),(5,(.hole (.int .i64)))],bl:=[.var (.hole (.int .i64)),.row y5],ts:=[(.int .i64),(.int .i64),(.slice y5)],pin:=1 })]
def Z8p (x:(Int × Int × Int × List (T7))):Option ((Int × Int × Int × List (T7)) ⊕ (Int × Int × List (T7))) :=
 bif (decide (x.2.1 < (((List.length x.2.2.2):Nat):Int))) then
 bif (inb x.2.1 (List.length x.2.2.2)) then
 (Z6v ((getAt ((0:Int),(0:Int),(0:Int)) x.2.2.2 (toN x.2.1)),x.2.2.1)).bind fun r21 =>
 bif (Bool.not r21.1) then
 bif (inb x.1 (List.length x.2.2.2)) then
 some (.inl ((IntKind.wrap .i64 (x.1+(1:Int))),(IntKind.wrap .i64 (x.2.1+(1:Int))),x.2.2.1,(List.set x.2.2.2 (toN x.1) (getAt ((0:Int),(0:Int),(0:Int)) x.2.2.2 (toN x.2.1)))))
 else
 none
 else
 some (.inl (x.1,(IntKind.wrap .i64 (x.2.1+(1:Int))),x.2.2.1,x.2.2.2))
 else
 none
 else
 some (.inr (x.1,x.2.2.1,x.2.2.2))
def Zd4:Ctx:={ tb:=mkTb T2.tbl,fx:=[(163,[2000000,203],Zqc),(203,[],Spec.shpR Zjb Zmx Z6v)],sum:=[],nt:=42,pin:=1,nr:=true,ys:=[] }
theorem Z8q:CSound Tryz.prog ⟨42,1,true⟩ (.loop (loopOf 6 Tryz.f201)) (Yb0 Zfl Zem (loop Z8p)) :=
 Y8i (C:=Zd4) (ctxOK mixed tbl_ok rfl ⟨Z6l,Z6x,trivial⟩ trivial) (SumOK.of trivial) Zfl Zem rfl rfl Z8p (fun x=>by kernel_rfl)
abbrev Ziz:Shape:={ sl:=[(0,(.sl 1)),(1,(.fn 203 .nil (.cons (.ptr 0 []) .nil)))],bl:=[.var (.hole (.int .i64)),.row y5],ts:=[(.int .i64),(.slice y5)],pin:=0 }
abbrev Zml:Shape:={ sl:=sl_18,bl:=bl_3,ts:=ts_12,pin:=1 }
def Z68 (x:T13):Option T15 :=
 (Z6k (x.2,x.1)).bind fun r19 =>
 bif (r19.1 == (Int.negSucc 0)) then
 some (r19.2.1,r19.2.2)
 else
 (loop Z8p (r19.1,(IntKind.wrap .i64 (r19.1+(1:Int))),r19.2.2,r19.2.1)).bind fun r20 =>
 bif (sub3 r20.1 (((List.length r20.2.2):Nat):Int) (List.length r20.2.2)) then
 bif (sub3 (0:Int) r20.1 (List.length (over r20.2.2 (List.replicate ((toN (((List.length r20.2.2):Nat):Int)) - (toN r20.1)) ((0:Int),(0:Int),(0:Int))) (toN r20.1) ((toN (((List.length r20.2.2):Nat):Int)) - (toN r20.1))))) then
 some ((cut (over r20.2.2 (List.replicate ((toN (((List.length r20.2.2):Nat):Int)) - (toN r20.1)) ((0:Int),(0:Int),(0:Int))) (toN r20.1) ((toN (((List.length r20.2.2):Nat):Int)) - (toN r20.1))) (toN (0:Int)) ((toN r20.1) - (toN (0:Int)))),r20.2.1)
 else
 none
 else
 none
abbrev Zq6:=Spec.shp Ziz Zml Z68
def Zd3:Ctx:={ tb:=mkTb T2.tbl,fx:=[(163,[2000000,203],Zqc),(203,[],Spec.shpR Zjb Zmx Z6v)],sum:=[(0,6,Yb0 Zfl Zem (loop Z8p))],nt:=42,pin:=1,nr:=true,ys:=[] }
theorem Z69:Sound Tryz.prog 201 (Zq6) :=
 Sound.shp (C:=Zd3) (fn:=Tryz.f201) (by kernel_rfl) (c:=bodyOf Tryz.f201) (by kernel_rfl) (by decide) (ctxOK mixed tbl_ok rfl ⟨Z6l,Z6x,trivial⟩ trivial) (SumOK.of ⟨(Yb2 (d:=.loop (loopOf 6 Tryz.f201)) (by kernel_rfl) Z8q),trivial⟩) (by kernel_rfl) Ziz Zml rfl (by decide) (by decide) rfl (by decide) rfl Z68 (fun x=>by kernel_rfl)
abbrev Zja:Shape:={ sl:=sl_23,bl:=[],ts:=ts_12,pin:=0 }
abbrev Zmw:Shape:={ sl:=sl_23,bl:=[],ts:=ts_12,pin:=0 }
def Z6u (x:T15):Option T15 :=
 (Z76 x.1).bind fun r16 =>
 bif (Bool.not r16) then
 some (([]:List T7),(1:Int))
 else
 bif (decide (x.2 < (0:Int))) then
 some (([]:List T7),(1:Int))
 else
 (Z5o x.1).bind fun r17 =>
 (Z68 (x.2,r17)).bind fun r18 =>
 some (r18.1,(0:Int))
abbrev Zqh:=Spec.shp Zja Zmw Z6u
def Zdp:Ctx:={ tb:=mkTb T2.tbl,fx:=[(161,[],Zqm),(202,[],Zpw),(201,[2000000,203],Zq6)],sum:=[],nt:=17,pin:=0,nr:=true,ys:=[] }
theorem Z6y:Sound Tryz.prog 164 (Zqh) :=
 Sound.shp (C:=Zdp) (fn:=Tryz.f164) (by kernel_rfl) (c:=bodyOf Tryz.f164) (by kernel_rfl) (by decide) (ctxOK mixed tbl_ok rfl ⟨Z79,Z5p,Z69,trivial⟩ trivial) (SumOK.of trivial) (by kernel_rfl) Zja Zmw rfl (by decide) (by decide) rfl (by decide) rfl Z6u (fun x=>by kernel_rfl)
abbrev Zhn:Shape:={ sl:=[(0,(.hole y23))],bl:=[],ts:=[y23],pin:=0 }
abbrev Zl9:Shape:={ sl:=sl_1,bl:=[],ts:=ts_1,pin:=0 }
def Z3j (x:T29):Option (Bool) :=
 bif (decide (x.2.1 < (0:Int))) then
 some false
 else
 (Z76 x.2.2).bind fun r14 =>
 bif (Bool.not r14) then
 some false
 else
 bif (x.1 == (1:Int)) then
 (Z6u (x.2.2,x.2.1)).bind fun r15 =>
 some ((((List.length r15.1):Nat):Int) == (((List.length x.2.2):Nat):Int))
 else
 bif (x.1 == (0:Int)) then
 bif (x.2.1 == (0:Int)) then
 some ((((List.length x.2.2):Nat):Int) == (0:Int))
 else
 some false
 else
 bif (x.1 == (2:Int)) then
 bif (x.2.1 == (0:Int)) then
 some ((((List.length x.2.2):Nat):Int) == (0:Int))
 else
 some false
 else
 some false
abbrev Zov:=Spec.shp Zhn Zl9 Z3j
def Zbe:Ctx:={ tb:=mkTb T2.tbl,fx:=[(161,[],Zqm),(164,[],Zqh)],sum:=[],nt:=44,pin:=0,nr:=true,ys:=[] }
theorem Z3k:Sound Tryz.prog 118 (Zov) :=
 Sound.shp (C:=Zbe) (fn:=Tryz.f118) (by kernel_rfl) (c:=bodyOf Tryz.f118) (by kernel_rfl) (by decide) (ctxOK mixed tbl_ok rfl ⟨Z79,Z6y,trivial⟩ trivial) (SumOK.of trivial) (by kernel_rfl) Zhn Zl9 rfl (by decide) (by decide) rfl (by decide) rfl Z3j (fun x=>by kernel_rfl)
abbrev Zf3:Shape:={ sl:=[(7,(.fn 114 .nil (.cons (.ptr 0 []) .nil))),(122,(.hole y26)),(123,(.hole (.int .i64))),(124,(.hole (.int .i64)))],bl:=bl_9,ts:=[y26,(.int .i64),(.int .i64),y45],pin:=0 }
abbrev Ze4:List (ETag × Shape):=[(.ret,{ sl:=[(2,(.hole .bool))],bl:=[],ts:=ts_1,pin:=0 }),(.exit 4,{ sl:=[],bl:=[],ts:=[],pin:=0 })]
def Z7o (x:(List T29 × Int × Int × (T47 × T61))):Option ((List T29 × Int × Int × (T47 × T61)) ⊕ ((Bool) ⊕ Unit)) :=
 bif (decide (x.2.2.1 < x.2.1)) then
 bif (inb x.2.2.1 (List.length x.1)) then
 (Z3j (getAt ((0:Int),(0:Int),([]:List T7)) x.1 (toN x.2.2.1))).bind fun r13 =>
 bif (Bool.not r13) then
 some (.inr (.inl false))
 else
 (Z1p ((7:Int),x.2.2.1,x.2.2.2)).bind fun r14 =>
 (Z60 ((getAt ((0:Int),(0:Int),([]:List T7)) x.1 (toN x.2.2.1)).2.2,r14.1,r14.2.1,r14.2.2)).bind fun r15 =>
 bif r15.1 then
 some (.inr (.inl false))
 else
 some (.inl (x.1,x.2.1,(IntKind.wrap .i64 (x.2.2.1+(1:Int))),r15.2.1))
 else
 none
 else
 some (.inr (.inr ()))
def Zab:Ctx:={ tb:=mkTb T2.tbl,fx:=[(38,[],Zp3),(95,[107],Zpz),(112,[],Zna),(109,[],Znx),(113,[110],Zq1),(117,[],Znm),(114,[],Znz),(113,[115],Zq2),(118,[],Zov)],sum:=[(0,8,Yb0 Zf4 Ze5 (loop Z7q)),(0,16,Yb0 Zf2 Ze3 (loop Z7m))],nt:=141,pin:=0,nr:=true,ys:=[] }
theorem Z7p:CSound Tryz.prog ⟨141,0,true⟩ (.loop (loopOf 22 Tryz.f57)) (Yb0 Zf3 Ze4 (loop Z7o)) :=
 Y8i (C:=Zab) (ctxOK mixed tbl_ok rfl ⟨Z41,Z5v,Zb,Z1o,Z5z,Z11,Z1s,Z61,Z3k,trivial⟩ trivial) (SumOK.of ⟨(Yb1 (by kernel_rfl)),(Yb1 (by kernel_rfl)),trivial⟩) Zf3 Ze4 rfl rfl Z7o (fun x=>by kernel_rfl)
abbrev Zgn:Shape:={ sl:=[(0,(.hole y45))],bl:=[],ts:=[y45],pin:=0 }
abbrev Zk9:Shape:={ sl:=sl_1,bl:=[],ts:=ts_1,pin:=0 }
def Z1i (x:T62):Option (Bool) :=
 (Z40 x.1).bind fun r6 =>
 bif (Bool.not r6) then
 some false
 else
 bif (decide ((((List.length x.2.1):Nat):Int) < (1:Int))) then
 some false
 else
 bif (decide ((((List.length x.2.1):Nat):Int) > (8:Int))) then
 some false
 else
 bif ((((List.length x.2.2.1):Nat):Int) != (((List.length x.1.1):Nat):Int)) then
 some false
 else
 bif ((((List.length x.2.2.2.1):Nat):Int) != x.1.2.1) then
 some false
 else
 bif ((((List.length x.2.2.2.2.1):Nat):Int) != x.1.2.2.1) then
 some false
 else
 bif (decide (x.2.2.2.2.2.1 < (0:Int))) then
 some false
 else
 (Z5u (x.2.1,x.1)).bind fun r7 =>
 bif r7.1 then
 some false
 else
 (loop Z7q (x.2.2.1,(((List.length x.2.2.1):Nat):Int),(0:Int),x,r7.2)).bind fun r8 =>
 match r8 with
 | .inl y9 =>
 some y9
 | .inr y9 =>
 (loop Z7m (y9.2.2.2.1,(((List.length y9.2.2.2.1):Nat):Int),(0:Int),y9)).bind fun r10 =>
 match r10 with
 | .inl y11 =>
 some y11
 | .inr y11 =>
 (loop Z7o (y11.2.2.2.2.1,(((List.length y11.2.2.2.2.1):Nat):Int),(0:Int),y11)).bind fun r12 =>
 match r12 with
 | .inl y13 =>
 some y13
 | .inr y13 =>
 some true
abbrev Znv:=Spec.shp Zgn Zk9 Z1i
def Za7:Ctx:={ tb:=mkTb T2.tbl,fx:=[(38,[],Zp3),(95,[107],Zpz),(112,[],Zna),(109,[],Znx),(113,[110],Zq1),(117,[],Znm),(114,[],Znz),(113,[115],Zq2),(118,[],Zov)],sum:=[(0,8,Yb0 Zf4 Ze5 (loop Z7q)),(0,16,Yb0 Zf2 Ze3 (loop Z7m)),(0,22,Yb0 Zf3 Ze4 (loop Z7o))],nt:=141,pin:=0,nr:=true,ys:=[] }
theorem Z1t:Sound Tryz.prog 57 (Znv) :=
 Sound.shp (C:=Za7) (fn:=Tryz.f57) (by kernel_rfl) (c:=bodyOf Tryz.f57) (by kernel_rfl) (by decide) (ctxOK mixed tbl_ok rfl ⟨Z41,Z5v,Zb,Z1o,Z5z,Z11,Z1s,Z61,Z3k,trivial⟩ trivial) (SumOK.of ⟨(Yb2 (d:=.loop (loopOf 8 Tryz.f57)) (by kernel_rfl) Z7r),(Yb2 (d:=.loop (loopOf 16 Tryz.f57)) (by kernel_rfl) Z7n),(Yb2 (d:=.loop (loopOf 22 Tryz.f57)) (by kernel_rfl) Z7p),trivial⟩) (by kernel_rfl) Zgn Zk9 rfl (by decide) (by decide) rfl (by decide) rfl Z1i (fun x=>by kernel_rfl)
abbrev Zg7:Shape:={ sl:=sl_15,bl:=bl_12,ts:=[y42],pin:=0 }
abbrev Zjt:Shape:={ sl:=sl_1,bl:=bl_12,ts:=[.bool,y42],pin:=1 }
def Zl (x:(T46)):Option (Bool × T46) :=
 some ((decide (x.1.1 < (0:Int))),x)
abbrev Znf:=Spec.shp Zg7 Zjt Zl
def Z9o:Ctx:={ tb:=mkTb T2.tbl,fx:=[],sum:=[],nt:=9,pin:=1,nr:=true,ys:=[] }
theorem Zm:Sound Tryz.prog 165 (Znf) :=
 Sound.shp (C:=Z9o) (fn:=Tryz.f165) (by kernel_rfl) (c:=bodyOf Tryz.f165) (by kernel_rfl) (by decide) (ctxOK mixed tbl_ok rfl trivial trivial) (SumOK.of trivial) (by kernel_rfl) Zg7 Zjt rfl (by decide) (by decide) rfl (by decide) rfl Zl (fun x=>by kernel_rfl)
theorem Zn:Sound Tryz.prog 165 (Spec.shpR Zg7 Zjt Zl) :=
 Sound.shpR (fun x y h=>by have h:=Option.some.inj h; subst h; rfl) Zm
abbrev Zg6:Shape:={ sl:=sl_15,bl:=bl_12,ts:=[y42],pin:=0 }
abbrev Zjs:Shape:={ sl:=sl_1,bl:=bl_12,ts:=[.bool,y42],pin:=1 }
def Zi (x:(T46)):Option (Bool × T46) :=
 some ((x.1.2.2.1.2.2.2 == x.1.2.2.1.1),x)
abbrev Zne:=Spec.shp Zg6 Zjs Zi
def Z9n:Ctx:={ tb:=mkTb T2.tbl,fx:=[],sum:=[],nt:=16,pin:=1,nr:=true,ys:=[] }
theorem Zj:Sound Tryz.prog 166 (Zne) :=
 Sound.shp (C:=Z9n) (fn:=Tryz.f166) (by kernel_rfl) (c:=bodyOf Tryz.f166) (by kernel_rfl) (by decide) (ctxOK mixed tbl_ok rfl trivial trivial) (SumOK.of trivial) (by kernel_rfl) Zg6 Zjs rfl (by decide) (by decide) rfl (by decide) rfl Zi (fun x=>by kernel_rfl)
theorem Zk:Sound Tryz.prog 166 (Spec.shpR Zg6 Zjs Zi) :=
 Sound.shpR (fun x y h=>by have h:=Option.some.inj h; subst h; rfl) Zj
abbrev Zjd:Shape:={ sl:=[(0,(.hole y5)),(1,(.ptr 0 []))],bl:=bl_3,ts:=[y5,(.int .i64)],pin:=0 }
abbrev Zmz:Shape:={ sl:=sl_1,bl:=bl_3,ts:=[.bool,(.int .i64)],pin:=1 }
def Z70 (x:(T7 × Int)):Option T0 :=
 some ((x.1.1 != x.2),x.2)
abbrev Zqk:=Spec.shp Zjd Zmz Z70
def Zds:Ctx:={ tb:=mkTb T2.tbl,fx:=[],sum:=[],nt:=8,pin:=1,nr:=true,ys:=[] }
theorem Z71:Sound Tryz.prog 233 (Zqk) :=
 Sound.shp (C:=Zds) (fn:=Tryz.f233) (by kernel_rfl) (c:=bodyOf Tryz.f233) (by kernel_rfl) (by decide) (ctxOK mixed tbl_ok rfl trivial trivial) (SumOK.of trivial) (by kernel_rfl) Zjd Zmz rfl (by decide) (by decide) rfl (by decide) rfl Z70 (fun x=>by kernel_rfl)
theorem Z72:Sound Tryz.prog 233 (Spec.shpR Zjd Zmz Z70) :=
 Sound.shpR (fun x y h=>by have h:=Option.some.inj h; subst h; rfl) Z71
abbrev Zfs:Shape:={ sl:=[(0,(.hole (.slice y5))),(1,(.fn 233 .nil (.cons (.ptr 0 []) .nil))),(7,(.hole (.int .i64))),(8,(.hole (.int .i64)))],bl:=bl_3,ts:=[(.slice y5),(.int .i64),(.int .i64),(.int .i64)],pin:=1 }
abbrev Zet:List (ETag × Shape):=[(.ret,{ sl:=sl_3,bl:=bl_3,ts:=ts_5,pin:=1 }),(.exit 0,{ sl:=[],bl:=bl_3,ts:=ts_2,pin:=1 })]
def Z93 (x:(List (T7) × Int × Int × Int)):Option ((List (T7) × Int × Int × Int) ⊕ ((Int × Int) ⊕ (Int))) :=
 bif (decide (x.2.2.1 < x.2.1)) then
 bif (inb x.2.2.1 (List.length x.1)) then
 (Z70 ((getAt ((0:Int),(0:Int),(0:Int)) x.1 (toN x.2.2.1)),x.2.2.2)).bind fun r18 =>
 bif r18.1 then
 some (.inr (.inl (x.2.2.1,x.2.2.2)))
 else
 some (.inl (x.1,x.2.1,(IntKind.wrap .i64 (x.2.2.1+(1:Int))),x.2.2.2))
 else
 none
 else
 some (.inr (.inr x.2.2.2))
def Zdi:Ctx:={ tb:=mkTb T2.tbl,fx:=[(233,[],Spec.shpR Zjd Zmz Z70)],sum:=[],nt:=19,pin:=1,nr:=true,ys:=[] }
theorem Z94:CSound Tryz.prog ⟨19,1,true⟩ (.loop (loopOf 3 Tryz.f163)) (Yb0 Zfs Zet (loop Z93)) :=
 Y8i (C:=Zdi) (ctxOK mixed tbl_ok rfl ⟨Z72,trivial⟩ trivial) (SumOK.of trivial) Zfs Zet rfl rfl Z93 (fun x=>by kernel_rfl)
abbrev Zj6:Shape:={ sl:=[(0,(.hole (.slice y5))),(1,(.fn 233 .nil (.cons (.ptr 0 []) .nil)))],bl:=bl_3,ts:=ts_12,pin:=0 }
abbrev Zms:Shape:={ sl:=sl_2,bl:=bl_3,ts:=ts_5,pin:=1 }
def Z6m (x:T15):Option (Int × Int) :=
 (loop Z93 (x.1,(((List.length x.1):Nat):Int),(0:Int),x.2)).bind fun r17 =>
 match r17 with
 | .inl y18 =>
 some (y18.1,y18.2)
 | .inr y18 =>
 some ((Int.negSucc 0),y18)
abbrev Zqd:=Spec.shp Zj6 Zms Z6m
def Zdh:Ctx:={ tb:=mkTb T2.tbl,fx:=[(233,[],Spec.shpR Zjd Zmz Z70)],sum:=[(0,3,Yb0 Zfs Zet (loop Z93))],nt:=19,pin:=1,nr:=true,ys:=[] }
theorem Z6n:Sound Tryz.prog 163 (Zqd) :=
 Sound.shp (C:=Zdh) (fn:=Tryz.f163) (by kernel_rfl) (c:=bodyOf Tryz.f163) (by kernel_rfl) (by decide) (ctxOK mixed tbl_ok rfl ⟨Z72,trivial⟩ trivial) (SumOK.of ⟨(Yb2 (d:=.loop (loopOf 3 Tryz.f163)) (by kernel_rfl) Z94),trivial⟩) (by kernel_rfl) Zj6 Zms rfl (by decide) (by decide) rfl (by decide) rfl Z6m (fun x=>by kernel_rfl)
abbrev Zjc:Shape:={ sl:=sl_23,bl:=[],ts:=ts_12,pin:=0 }
abbrev Zmy:Shape:={ sl:=[(0,(.hole y5)),(1,(.hole (.int .i64)))],bl:=[],ts:=[y5,(.int .i64)],pin:=0 }
def Z6z (x:T15):Option (T7 × Int) :=
 (Z76 x.1).bind fun r15 =>
 bif (Bool.not r15) then
 some (((0:Int),(0:Int),(0:Int)),(1:Int))
 else
 bif (decide (x.2 < (0:Int))) then
 some (((0:Int),(0:Int),(0:Int)),(1:Int))
 else
 (Z6m (x.1,x.2)).bind fun r16 =>
 bif (decide (r16.1 < (0:Int))) then
 some (((0:Int),(0:Int),(0:Int)),(4:Int))
 else
 bif (inb r16.1 (List.length x.1)) then
 some ((getAt ((0:Int),(0:Int),(0:Int)) x.1 (toN r16.1)),(0:Int))
 else
 none
abbrev Zqj:=Spec.shp Zjc Zmy Z6z
def Zdr:Ctx:={ tb:=mkTb T2.tbl,fx:=[(161,[],Zqm),(163,[233],Zqd)],sum:=[],nt:=25,pin:=0,nr:=true,ys:=[] }
theorem Z73:Sound Tryz.prog 204 (Zqj) :=
 Sound.shp (C:=Zdr) (fn:=Tryz.f204) (by kernel_rfl) (c:=bodyOf Tryz.f204) (by kernel_rfl) (by decide) (ctxOK mixed tbl_ok rfl ⟨Z79,Z6n,trivial⟩ trivial) (SumOK.of trivial) (by kernel_rfl) Zjc Zmy rfl (by decide) (by decide) rfl (by decide) rfl Z6z (fun x=>by kernel_rfl)
abbrev Zg9:Shape:={ sl:=[(0,(.ptr 0 [])),(1,(.hole (.slice y5)))],bl:=bl_12,ts:=[(.slice y5),y42],pin:=0 }
abbrev Zjv:Shape:={ sl:=sl_17,bl:=bl_12,ts:=[y5,y42],pin:=1 }
def Zq (x:(List (T7) × T46)):Option (T7 × T46) :=
 (Z6z (x.1,x.2.2)).bind fun r14 =>
 bif (r14.2 != (0:Int)) then
 bif ((r14.1.1 == ((0:Int),(0:Int),(0:Int)).1) && ((r14.1.2.1 == ((0:Int),(0:Int),(0:Int)).2.1) && (r14.1.2.2 == ((0:Int),(0:Int),(0:Int)).2.2))) then
 some (((Int.negSucc 0),(0:Int),(0:Int)),x.2)
 else
 some (r14.1,x.2)
 else
 some (r14.1,x.2)
abbrev Znh:=Spec.shp Zg9 Zjv Zq
def Z9q:Ctx:={ tb:=mkTb T2.tbl,fx:=[(204,[],Zqj)],sum:=[],nt:=27,pin:=1,nr:=true,ys:=[] }
theorem Zr:Sound Tryz.prog 167 (Znh) :=
 Sound.shp (C:=Z9q) (fn:=Tryz.f167) (by kernel_rfl) (c:=bodyOf Tryz.f167) (by kernel_rfl) (by decide) (ctxOK mixed tbl_ok rfl ⟨Z73,trivial⟩ trivial) (SumOK.of trivial) (by kernel_rfl) Zg9 Zjv rfl (by decide) (by decide) rfl (by decide) rfl Zq (fun x=>by kernel_rfl)
abbrev Zg0:Shape:={ sl:=[(0,(.hole y40)),(1,(.hole .bool)),(2,(.hole (.int .i64)))],bl:=[],ts:=[y40,.bool,(.int .i64)],pin:=0 }
abbrev Zjm:Shape:={ sl:=[(0,(.hole .bool)),(1,(.hole (.int .i64)))],bl:=[],ts:=[.bool,(.int .i64)],pin:=0 }
def Z6 (x:((Int × T40) × Bool × Int)):Option T0 :=
 (Za x.1).bind fun r10 =>
 bif (Bool.not r10) then
 some (false,(1:Int))
 else
 bif (decide (x.2.2 < (0:Int))) then
 some (false,(1:Int))
 else
 (Zl (x.1,x.2.2)).bind fun r11 =>
 bif r11.1 then
 some (false,(0:Int))
 else
 bif x.1.2.1 then
 some (true,(0:Int))
 else
 bif x.2.1 then
 (Zi (x.1,x.2.2)).bind fun r12 =>
 bif (Bool.not r12.1) then
 some (true,(0:Int))
 else
 (Zq (x.1.2.2.2.2.2.2,x.1,x.2.2)).bind fun r13 =>
 some ((r13.1.1 != (Int.negSucc 0)),(0:Int))
 else
 bif (decide (x.1.2.2.1.2.2.2 > (0:Int))) then
 some (true,(0:Int))
 else
 (Zq (x.1.2.2.2.2.2.1,x.1,x.2.2)).bind fun r12 =>
 some ((r12.1.1 != (Int.negSucc 0)),(0:Int))
abbrev Zn8:=Spec.shp Zg0 Zjm Z6
def Z9g:Ctx:={ tb:=mkTb T2.tbl,fx:=[(112,[],Zna),(165,[],Spec.shpR Zg7 Zjt Zl),(166,[],Spec.shpR Zg6 Zjs Zi),(167,[],Znh)],sum:=[],nt:=63,pin:=0,nr:=true,ys:=[] }
theorem Z7:Sound Tryz.prog 119 (Zn8) :=
 Sound.shp (C:=Z9g) (fn:=Tryz.f119) (by kernel_rfl) (c:=bodyOf Tryz.f119) (by kernel_rfl) (by decide) (ctxOK mixed tbl_ok rfl ⟨Zb,Zn,Zk,Zr,trivial⟩ trivial) (SumOK.of trivial) (by kernel_rfl) Zg0 Zjm rfl (by decide) (by decide) rfl (by decide) rfl Z6 (fun x=>by kernel_rfl)
abbrev Zf1:Shape:={ sl:=[(1,(.hole (.int .i64))),(2,(.ptr 0 [])),(7,(.sl 1)),(38,(.hole (.slice y2))),(39,(.hole (.int .i64))),(40,(.hole (.int .i64)))],bl:=bl_13,ts:=ts_13,pin:=0 }
abbrev Ze2:List (ETag × Shape):=[(.exit 0,{ sl:=[(7,(.sl 0))],bl:=[.row y4],ts:=[(.slice y4)],pin:=0 })]
def Z7k (x:T68):Option (T68 ⊕ (T6)) :=
 bif (decide (x.2.2.2.1 < x.2.2.1)) then
 bif (inb x.2.2.2.1 (List.length x.2.1)) then
 bif (inb (getAt (false,(0:Int)) x.2.1 (toN x.2.2.2.1)).2 (List.length x.2.2.2.2.1.2.2.1)) then
 (Z6 ((getAt ((0:Int),false,((0:Int),(0:Int),([]:List Int),(0:Int)),(0:Int),(0:Int),([]:List T7),([]:List T7)) x.2.2.2.2.1.2.2.1 (toN (getAt (false,(0:Int)) x.2.1 (toN x.2.2.2.1)).2)),(getAt (false,(0:Int)) x.2.1 (toN x.2.2.2.1)).1,x.1)).bind fun r9 =>
 bif r9.1 then
 bif (fits ((List.length x.2.2.2.2.2)+(List.length ((x.1,x.2.2.2.1) :: ([]:List (Int × Int)))))) then
 some (.inl (x.1,x.2.1,x.2.2.1,(IntKind.wrap .i64 (x.2.2.2.1+(1:Int))),x.2.2.2.2.1,(x.2.2.2.2.2++((x.1,x.2.2.2.1) :: ([]:List (Int × Int))))))
 else
 none
 else
 some (.inl (x.1,x.2.1,x.2.2.1,(IntKind.wrap .i64 (x.2.2.2.1+(1:Int))),x.2.2.2.2.1,x.2.2.2.2.2))
 else
 none
 else
 none
 else
 some (.inr x.2.2.2.2.2)
def Za6:Ctx:={ tb:=mkTb T2.tbl,fx:=[(119,[],Zn8)],sum:=[],nt:=67,pin:=0,nr:=true,ys:=[] }
theorem Z7l:CSound Tryz.prog ⟨67,0,true⟩ (.loop (loopOf 8 Tryz.f58)) (Yb0 Zf1 Ze2 (loop Z7k)) :=
 Y8i (C:=Za6) (ctxOK mixed tbl_ok rfl ⟨Z7,trivial⟩ trivial) (SumOK.of trivial) Zf1 Ze2 rfl rfl Z7k (fun x=>by kernel_rfl)
abbrev Zgm:Shape:={ sl:=[(0,(.hole y45)),(1,(.hole (.int .i64)))],bl:=[],ts:=[y45,(.int .i64)],pin:=0 }
abbrev Zk8:Shape:={ sl:=[(0,(.hole (.slice y4)))],bl:=[],ts:=[(.slice y4)],pin:=0 }
def Z1g (x:((T47 × T61) × Int)):Option T6 :=
 bif (inb x.2 (List.length x.1.2.1)) then
 bif (inb (getAt ((0:Int),(0:Int),(0:Int),false) x.1.2.1 (toN x.2)).1 (List.length x.1.1.2.2.2.2.2)) then
 bif (inb (getAt ((0:Int),(0:Int),(0:Int),false) x.1.2.1 (toN x.2)).2.1 (List.length (getAt ([]:List T7) x.1.1.2.2.2.2.2 (toN (getAt ((0:Int),(0:Int),(0:Int),false) x.1.2.1 (toN x.2)).1)))) then
 bif ((getAt ((0:Int),(0:Int),(0:Int)) (getAt ([]:List T7) x.1.1.2.2.2.2.2 (toN (getAt ((0:Int),(0:Int),(0:Int),false) x.1.2.1 (toN x.2)).1)) (toN (getAt ((0:Int),(0:Int),(0:Int),false) x.1.2.1 (toN x.2)).2.1)).1 != (4:Int)) then
 some ([]:List (Int × Int))
 else
 bif (inb (getAt ((0:Int),(0:Int),(0:Int)) (getAt ([]:List T7) x.1.1.2.2.2.2.2 (toN (getAt ((0:Int),(0:Int),(0:Int),false) x.1.2.1 (toN x.2)).1)) (toN (getAt ((0:Int),(0:Int),(0:Int),false) x.1.2.1 (toN x.2)).2.1)).2.1 (List.length x.1.1.2.2.2.2.1)) then
 (loop Z7k (x.2,(getAt (([]:List T0),false) x.1.1.2.2.2.2.1 (toN (getAt ((0:Int),(0:Int),(0:Int)) (getAt ([]:List T7) x.1.1.2.2.2.2.2 (toN (getAt ((0:Int),(0:Int),(0:Int),false) x.1.2.1 (toN x.2)).1)) (toN (getAt ((0:Int),(0:Int),(0:Int),false) x.1.2.1 (toN x.2)).2.1)).2.1)).1,(((List.length (getAt (([]:List T0),false) x.1.1.2.2.2.2.1 (toN (getAt ((0:Int),(0:Int),(0:Int)) (getAt ([]:List T7) x.1.1.2.2.2.2.2 (toN (getAt ((0:Int),(0:Int),(0:Int),false) x.1.2.1 (toN x.2)).1)) (toN (getAt ((0:Int),(0:Int),(0:Int),false) x.1.2.1 (toN x.2)).2.1)).2.1)).1):Nat):Int),(0:Int),x.1,([]:List (Int × Int)))).bind fun r8 =>
 some r8
 else
 none
 else
 none
 else
 none
 else
 none
abbrev Znu:=Spec.shp Zgm Zk8 Z1g
def Za5:Ctx:={ tb:=mkTb T2.tbl,fx:=[(119,[],Zn8)],sum:=[(0,8,Yb0 Zf1 Ze2 (loop Z7k))],nt:=67,pin:=0,nr:=true,ys:=[] }
theorem Z1h:Sound Tryz.prog 58 (Znu) :=
 Sound.shp (C:=Za5) (fn:=Tryz.f58) (by kernel_rfl) (c:=bodyOf Tryz.f58) (by kernel_rfl) (by decide) (ctxOK mixed tbl_ok rfl ⟨Z7,trivial⟩ trivial) (SumOK.of ⟨(Yb2 (d:=.loop (loopOf 8 Tryz.f58)) (by kernel_rfl) Z7l),trivial⟩) (by kernel_rfl) Zgm Zk8 rfl (by decide) (by decide) rfl (by decide) rfl Z1g (fun x=>by kernel_rfl)
abbrev Zez:Shape:={ sl:=[(1,(.ptr 0 [])),(3,(.sl 1)),(16,(.hole y18)),(17,(.hole (.int .i64))),(18,(.hole (.int .i64)))],bl:=bl_13,ts:=[y18,(.int .i64),(.int .i64),y45,(.slice y4)],pin:=0 }
abbrev Ze0:List (ETag × Shape):=[(.exit 0,{ sl:=[(3,(.sl 0))],bl:=[.row y4],ts:=[(.slice y4)],pin:=0 })]
def Z7g (x:T67):Option (T67 ⊕ (T6)) :=
 bif (decide (x.2.2.1 < x.2.1)) then
 bif (inb x.2.2.1 (List.length x.1)) then
 bif ((getAt ((0:Int),(0:Int),(0:Int),false) x.1 (toN x.2.2.1)).2.2.1 != (0:Int)) then
 some (.inl (x.1,x.2.1,(IntKind.wrap .i64 (x.2.2.1+(1:Int))),x.2.2.2.1,x.2.2.2.2))
 else
 (Z1g (x.2.2.2.1,x.2.2.1)).bind fun r7 =>
 bif ((((List.length r7):Nat):Int) == (0:Int)) then
 bif (fits ((List.length x.2.2.2.2)+(List.length ((x.2.2.1,(Int.negSucc 0)) :: ([]:List (Int × Int)))))) then
 some (.inl (x.1,x.2.1,(IntKind.wrap .i64 (x.2.2.1+(1:Int))),x.2.2.2.1,(x.2.2.2.2++((x.2.2.1,(Int.negSucc 0)) :: ([]:List (Int × Int))))))
 else
 none
 else
 bif (fits ((List.length x.2.2.2.2)+(List.length r7))) then
 some (.inl (x.1,x.2.1,(IntKind.wrap .i64 (x.2.2.1+(1:Int))),x.2.2.2.1,(x.2.2.2.2++r7)))
 else
 none
 else
 none
 else
 some (.inr x.2.2.2.2)
def Z9z:Ctx:={ tb:=mkTb T2.tbl,fx:=[(57,[],Znv),(58,[],Znu)],sum:=[],nt:=40,pin:=0,nr:=true,ys:=[] }
theorem Z7h:CSound Tryz.prog ⟨40,0,true⟩ (.loop (loopOf 6 Tryz.f22)) (Yb0 Zez Ze0 (loop Z7g)) :=
 Y8i (C:=Z9z) (ctxOK mixed tbl_ok rfl ⟨Z1t,Z1h,trivial⟩ trivial) (SumOK.of trivial) Zez Ze0 rfl rfl Z7g (fun x=>by kernel_rfl)
abbrev Zgh:Shape:={ sl:=[(0,(.hole y45))],bl:=[],ts:=[y45],pin:=0 }
abbrev Zk3:Shape:={ sl:=[(0,(.hole (.slice y4)))],bl:=[],ts:=[(.slice y4)],pin:=0 }
def Z16 (x:T62):Option T6 :=
 (Z1i x).bind fun r5 =>
 bif (Bool.not r5) then
 some ([]:List (Int × Int))
 else
 bif (x.2.2.2.2.2.2 != (0:Int)) then
 some ([]:List (Int × Int))
 else
 (loop Z7g (x.2.1,(((List.length x.2.1):Nat):Int),(0:Int),x,([]:List (Int × Int)))).bind fun r6 =>
 some r6
abbrev Znp:=Spec.shp Zgh Zk3 Z16
def Z9y:Ctx:={ tb:=mkTb T2.tbl,fx:=[(57,[],Znv),(58,[],Znu)],sum:=[(0,6,Yb0 Zez Ze0 (loop Z7g))],nt:=40,pin:=0,nr:=true,ys:=[] }
theorem Z17:Sound Tryz.prog 22 (Znp) :=
 Sound.shp (C:=Z9y) (fn:=Tryz.f22) (by kernel_rfl) (c:=bodyOf Tryz.f22) (by kernel_rfl) (by decide) (ctxOK mixed tbl_ok rfl ⟨Z1t,Z1h,trivial⟩ trivial) (SumOK.of ⟨(Yb2 (d:=.loop (loopOf 6 Tryz.f22)) (by kernel_rfl) Z7h),trivial⟩) (by kernel_rfl) Zgh Zk3 rfl (by decide) (by decide) rfl (by decide) rfl Z16 (fun x=>by kernel_rfl)
abbrev Zfv:Shape:={ sl:=[(0,(.hole (.slice y4))),(3,(.ptr 0 [])),(7,(.hole (.int .i64))),(8,(.hole (.int .i64)))],bl:=[.var (.hole y4)],ts:=[(.slice y4),(.int .i64),(.int .i64),y4],pin:=0 }
abbrev Zew:List (ETag × Shape):=[(.ret,{ sl:=sl_3,bl:=[],ts:=ts_2,pin:=0 }),(.exit 0,{ sl:=[],bl:=[],ts:=[],pin:=0 })]
def Z99 (x:T11):Option (T11 ⊕ ((Int) ⊕ Unit)) :=
 bif (decide (x.2.2.1 < x.2.1)) then
 bif (inb x.2.2.1 (List.length x.1)) then
 bif ((x.2.2.2.1 == (getAt ((0:Int),(0:Int)) x.1 (toN x.2.2.1)).1) && (x.2.2.2.2 == (getAt ((0:Int),(0:Int)) x.1 (toN x.2.2.1)).2)) then
 some (.inr (.inl x.2.2.1))
 else
 some (.inl (x.1,x.2.1,(IntKind.wrap .i64 (x.2.2.1+(1:Int))),x.2.2.2))
 else
 none
 else
 some (.inr (.inr ()))
def Zdo:Ctx:={ tb:=mkTb T2.tbl,fx:=[],sum:=[],nt:=19,pin:=0,nr:=true,ys:=[] }
theorem Z9a:CSound Tryz.prog ⟨19,0,true⟩ (.loop (loopOf 3 Tryz.f84)) (Yb0 Zfv Zew (loop Z99)) :=
 Y8i (C:=Zdo) (ctxOK mixed tbl_ok rfl trivial trivial) (SumOK.of trivial) Zfv Zew rfl rfl Z99 (fun x=>by kernel_rfl)
abbrev Zj9:Shape:={ sl:=sl_24,bl:=[],ts:=[(.slice y4),y4],pin:=0 }
abbrev Zmv:Shape:={ sl:=sl_2,bl:=[],ts:=ts_2,pin:=0 }
def Z6s (x:(List (Int × Int) × (Int × Int))):Option (Int) :=
 (loop Z99 (x.1,(((List.length x.1):Nat):Int),(0:Int),x.2)).bind fun r9 =>
 match r9 with
 | .inl y10 =>
 some y10
 | .inr y10 =>
 some (Int.negSucc 0)
abbrev Zqg:=Spec.shp Zj9 Zmv Z6s
def Zdn:Ctx:={ tb:=mkTb T2.tbl,fx:=[],sum:=[(0,3,Yb0 Zfv Zew (loop Z99))],nt:=19,pin:=0,nr:=true,ys:=[] }
theorem Z6t:Sound Tryz.prog 84 (Zqg) :=
 Sound.shp (C:=Zdn) (fn:=Tryz.f84) (by kernel_rfl) (c:=bodyOf Tryz.f84) (by kernel_rfl) (by decide) (ctxOK mixed tbl_ok rfl trivial trivial) (SumOK.of ⟨(Yb2 (d:=.loop (loopOf 3 Tryz.f84)) (by kernel_rfl) Z9a),trivial⟩) (by kernel_rfl) Zj9 Zmv rfl (by decide) (by decide) rfl (by decide) rfl Z6s (fun x=>by kernel_rfl)
abbrev Ziy:Shape:={ sl:=sl_24,bl:=[],ts:=[(.slice y4),y4],pin:=0 }
abbrev Zmk:Shape:={ sl:=sl_1,bl:=[],ts:=ts_1,pin:=0 }
def Z66 (x:(List (Int × Int) × (Int × Int))):Option (Bool) :=
 (Z6s (x.1,x.2)).bind fun r8 =>
 some (decide (r8 ≥ (0:Int)))
abbrev Zq5:=Spec.shp Ziy Zmk Z66
def Zd2:Ctx:={ tb:=mkTb T2.tbl,fx:=[(84,[],Zqg)],sum:=[],nt:=9,pin:=0,nr:=true,ys:=[] }
theorem Z67:Sound Tryz.prog 59 (Zq5) :=
 Sound.shp (C:=Zd2) (fn:=Tryz.f59) (by kernel_rfl) (c:=bodyOf Tryz.f59) (by kernel_rfl) (by decide) (ctxOK mixed tbl_ok rfl ⟨Z6t,trivial⟩ trivial) (SumOK.of trivial) (by kernel_rfl) Ziy Zmk rfl (by decide) (by decide) rfl (by decide) rfl Z66 (fun x=>by kernel_rfl)
abbrev Zim:Shape:={ sl:=[(0,(.hole y18))],bl:=[],ts:=[y18],pin:=0 }
abbrev Zm8:Shape:={ sl:=[(0,(.sl 0))],bl:=[.row y12],ts:=[y18],pin:=0 }
def Z5i (x:(List (T17))):Option (List (T17)) :=
 bif (@Nat.beq (List.length x) (0:Nat)) then
 amb (
 some ([]:List T17)) (
 bif (fits ((List.length ([]:List T17))+(List.length x))) then
 some (([]:List T17)++x)
 else
 none)
 else
 bif (fits ((List.length ([]:List T17))+(List.length x))) then
 some (([]:List T17)++x)
 else
 none
abbrev Zpt:=Spec.shp Zim Zm8 Z5i
def Zcq:Ctx:={ tb:=mkTb T2.tbl,fx:=[],sum:=[],nt:=8,pin:=0,nr:=true,ys:=[] }
theorem Z5j:Sound Tryz.prog 60 (Zpt) :=
 Sound.shp (C:=Zcq) (fn:=Tryz.f60) (by kernel_rfl) (c:=bodyOf Tryz.f60) (by kernel_rfl) (by decide) (ctxOK mixed tbl_ok rfl trivial trivial) (SumOK.of trivial) (by kernel_rfl) Zim Zm8 rfl (by decide) (by decide) rfl (by decide) rfl Z5i (fun x=>by kernel_rfl)
abbrev Zil:Shape:={ sl:=[(0,(.hole y41))],bl:=[],ts:=[y41],pin:=0 }
abbrev Zm7:Shape:={ sl:=[(0,(.sl 0))],bl:=[.row y40],ts:=[y41],pin:=0 }
def Z5g (x:(List T43)):Option (List T43) :=
 bif (@Nat.beq (List.length x) (0:Nat)) then
 amb (
 some ([]:List (Int × T41))) (
 bif (fits ((List.length ([]:List (Int × T41)))+(List.length x))) then
 some (([]:List (Int × T41))++x)
 else
 none)
 else
 bif (fits ((List.length ([]:List (Int × T41)))+(List.length x))) then
 some (([]:List (Int × T41))++x)
 else
 none
abbrev Zps:=Spec.shp Zil Zm7 Z5g
def Zcp:Ctx:={ tb:=mkTb T2.tbl,fx:=[],sum:=[],nt:=8,pin:=0,nr:=true,ys:=[] }
theorem Z5h:Sound Tryz.prog 61 (Zps) :=
 Sound.shp (C:=Zcp) (fn:=Tryz.f61) (by kernel_rfl) (c:=bodyOf Tryz.f61) (by kernel_rfl) (by decide) (ctxOK mixed tbl_ok rfl trivial trivial) (SumOK.of trivial) (by kernel_rfl) Zil Zm7 rfl (by decide) (by decide) rfl (by decide) rfl Z5g (fun x=>by kernel_rfl)
abbrev Zin:Shape:={ sl:=[(0,(.hole y19))],bl:=[],ts:=[y19],pin:=0 }
abbrev Zm9:Shape:={ sl:=[(0,(.sl 0))],bl:=[.row y15],ts:=[y19],pin:=0 }
def Z5k (x:(List (T18))):Option (List (T18)) :=
 bif (@Nat.beq (List.length x) (0:Nat)) then
 amb (
 some ([]:List T22)) (
 bif (fits ((List.length ([]:List T22))+(List.length x))) then
 some (([]:List T22)++x)
 else
 none)
 else
 bif (fits ((List.length ([]:List T22))+(List.length x))) then
 some (([]:List T22)++x)
 else
 none
abbrev Zpu:=Spec.shp Zin Zm9 Z5k
def Zcr:Ctx:={ tb:=mkTb T2.tbl,fx:=[],sum:=[],nt:=8,pin:=0,nr:=true,ys:=[] }
theorem Z5l:Sound Tryz.prog 62 (Zpu) :=
 Sound.shp (C:=Zcr) (fn:=Tryz.f62) (by kernel_rfl) (c:=bodyOf Tryz.f62) (by kernel_rfl) (by decide) (ctxOK mixed tbl_ok rfl trivial trivial) (SumOK.of trivial) (by kernel_rfl) Zin Zm9 rfl (by decide) (by decide) rfl (by decide) rfl Z5k (fun x=>by kernel_rfl)
abbrev Zio:Shape:={ sl:=[(0,(.hole y26))],bl:=[],ts:=[y26],pin:=0 }
abbrev Zma:Shape:={ sl:=[(0,(.sl 0))],bl:=[.row y23],ts:=[y26],pin:=0 }
def Z5m (x:(List T29)):Option (List T29) :=
 bif (@Nat.beq (List.length x) (0:Nat)) then
 amb (
 some ([]:List (Int × T14))) (
 bif (fits ((List.length ([]:List (Int × T14)))+(List.length x))) then
 some (([]:List (Int × T14))++x)
 else
 none)
 else
 bif (fits ((List.length ([]:List (Int × T14)))+(List.length x))) then
 some (([]:List (Int × T14))++x)
 else
 none
abbrev Zpv:=Spec.shp Zio Zma Z5m
def Zcs:Ctx:={ tb:=mkTb T2.tbl,fx:=[],sum:=[],nt:=8,pin:=0,nr:=true,ys:=[] }
theorem Z5n:Sound Tryz.prog 63 (Zpv) :=
 Sound.shp (C:=Zcs) (fn:=Tryz.f63) (by kernel_rfl) (c:=bodyOf Tryz.f63) (by kernel_rfl) (by decide) (ctxOK mixed tbl_ok rfl trivial trivial) (SumOK.of trivial) (by kernel_rfl) Zio Zma rfl (by decide) (by decide) rfl (by decide) rfl Z5m (fun x=>by kernel_rfl)
abbrev Zgz:Shape:={ sl:=sl_25,bl:=bl_2,ts:=ts_10,pin:=0 }
abbrev Zkl:Shape:={ sl:=sl_17,bl:=bl_2,ts:=[y5,y39,y4,y18,y41,y19,y26,y27],pin:=1 }
def Z26 (x:T58):Option (T7 × T47 × (Int × Int) × List (T17) × List T43 × List (T18) × List T29 × List (T20)) :=
 bif (inb x.1 (List.length x.2.2.2.1)) then
 bif (inb (getAt ((0:Int),(0:Int),(0:Int),false) x.2.2.2.1 (toN x.1)).1 (List.length x.2.1.2.2.2.2.2)) then
 bif (inb (getAt ((0:Int),(0:Int),(0:Int),false) x.2.2.2.1 (toN x.1)).2.1 (List.length (getAt ([]:List T7) x.2.1.2.2.2.2.2 (toN (getAt ((0:Int),(0:Int),(0:Int),false) x.2.2.2.1 (toN x.1)).1)))) then
 some ((getAt ((0:Int),(0:Int),(0:Int)) (getAt ([]:List T7) x.2.1.2.2.2.2.2 (toN (getAt ((0:Int),(0:Int),(0:Int),false) x.2.2.2.1 (toN x.1)).1)) (toN (getAt ((0:Int),(0:Int),(0:Int),false) x.2.2.2.1 (toN x.1)).2.1)),x.2.1,x.2.2.1,x.2.2.2.1,x.2.2.2.2.1,x.2.2.2.2.2.1,x.2.2.2.2.2.2.1,x.2.2.2.2.2.2.2)
 else
 none
 else
 none
 else
 none
abbrev Zo7:=Spec.shp Zgz Zkl Z26
def Zao:Ctx:={ tb:=mkTb T2.tbl,fx:=[],sum:=[],nt:=28,pin:=1,nr:=true,ys:=[] }
theorem Z27:Sound Tryz.prog 78 (Zo7) :=
 Sound.shp (C:=Zao) (fn:=Tryz.f78) (by kernel_rfl) (c:=bodyOf Tryz.f78) (by kernel_rfl) (by decide) (ctxOK mixed tbl_ok rfl trivial trivial) (SumOK.of trivial) (by kernel_rfl) Zgz Zkl rfl (by decide) (by decide) rfl (by decide) rfl Z26 (fun x=>by kernel_rfl)
abbrev Zgx:Shape:={ sl:=sl_25,bl:=bl_2,ts:=ts_10,pin:=0 }
abbrev Zkj:Shape:={ sl:=[],bl:=bl_2,ts:=ts_11,pin:=1 }
def Z22 (x:T58):Option T57 :=
 bif (inb x.1 (List.length x.2.2.2.1)) then
 (Z24 (x.1,(IntKind.wrap .i64 ((getAt ((0:Int),(0:Int),(0:Int),false) x.2.2.2.1 (toN x.1)).2.1+(1:Int))),x.2.1,x.2.2.1,x.2.2.2.1,x.2.2.2.2.1,x.2.2.2.2.2.1,x.2.2.2.2.2.2.1,x.2.2.2.2.2.2.2)).bind fun r15 =>
 some (r15.1,r15.2.1,r15.2.2.1,r15.2.2.2.1,r15.2.2.2.2.1,r15.2.2.2.2.2.1,r15.2.2.2.2.2.2)
 else
 none
abbrev Zo5:=Spec.shp Zgx Zkj Z22
def Zam:Ctx:={ tb:=mkTb T2.tbl,fx:=[(41,[],Zo6)],sum:=[],nt:=17,pin:=1,nr:=true,ys:=[] }
theorem Z23:Sound Tryz.prog 120 (Zo5) :=
 Sound.shp (C:=Zam) (fn:=Tryz.f120) (by kernel_rfl) (c:=bodyOf Tryz.f120) (by kernel_rfl) (by decide) (ctxOK mixed tbl_ok rfl ⟨Z25,trivial⟩ trivial) (SumOK.of trivial) (by kernel_rfl) Zgx Zkj rfl (by decide) (by decide) rfl (by decide) rfl Z22 (fun x=>by kernel_rfl)
abbrev Zh3:Shape:={ sl:=sl_26,bl:=bl_2,ts:=ts_14,pin:=0 }
abbrev Zkp:Shape:={ sl:=[],bl:=bl_2,ts:=ts_11,pin:=1 }
def Z2e (x:T60):Option T57 :=
 (Z22 (x.1.1,x.2.2.1,x.2.2.2.1,x.2.2.2.2.1,x.2.2.2.2.2.1,x.2.2.2.2.2.2.1,x.2.2.2.2.2.2.2.1,x.2.2.2.2.2.2.2.2)).bind fun r14 =>
 some (r14.1,r14.2.1,r14.2.2.1,r14.2.2.2.1,r14.2.2.2.2.1,r14.2.2.2.2.2.1,r14.2.2.2.2.2.2)
abbrev Zob:=Spec.shp Zh3 Zkp Z2e
def Zas:Ctx:={ tb:=mkTb T2.tbl,fx:=[(120,[],Zo5)],sum:=[],nt:=10,pin:=1,nr:=true,ys:=[] }
theorem Z2f:Sound Tryz.prog 64 (Zob) :=
 Sound.shp (C:=Zas) (fn:=Tryz.f64) (by kernel_rfl) (c:=bodyOf Tryz.f64) (by kernel_rfl) (by decide) (ctxOK mixed tbl_ok rfl ⟨Z23,trivial⟩ trivial) (SumOK.of trivial) (by kernel_rfl) Zh3 Zkp rfl (by decide) (by decide) rfl (by decide) rfl Z2e (fun x=>by kernel_rfl)
abbrev Zg4:Shape:={ sl:=sl_17,bl:=[],ts:=[y5],pin:=0 }
abbrev Zjq:Shape:={ sl:=sl_1,bl:=[],ts:=ts_1,pin:=0 }
def Ze (x:(T7)):Option (Bool) :=
 bif (decide (x.1 ≥ (0:Int))) then
 bif (decide (x.2.1 ≥ (0:Int))) then
 some (decide (x.2.2 ≥ (0:Int)))
 else
 some false
 else
 some false
abbrev Znc:=Spec.shp Zg4 Zjq Ze
def Z9k:Ctx:={ tb:=mkTb T2.tbl,fx:=[],sum:=[],nt:=16,pin:=0,nr:=true,ys:=[] }
theorem Zf:Sound Tryz.prog 206 (Znc) :=
 Sound.shp (C:=Z9k) (fn:=Tryz.f206) (by kernel_rfl) (c:=bodyOf Tryz.f206) (by kernel_rfl) (by decide) (ctxOK mixed tbl_ok rfl trivial trivial) (SumOK.of trivial) (by kernel_rfl) Zg4 Zjq rfl (by decide) (by decide) rfl (by decide) rfl Ze (fun x=>by kernel_rfl)
abbrev Zg8:Shape:={ sl:=sl_25,bl:=bl_12,ts:=[(.int .i64),y42],pin:=0 }
abbrev Zju:Shape:={ sl:=[],bl:=bl_12,ts:=[y42],pin:=1 }
def Zo (x:(Int × T46)):Option (T46) :=
 (Z6u (x.2.1.2.2.2.2.2.1,x.1)).bind fun r23 =>
 (Z6u (x.2.1.2.2.2.2.2.2,x.1)).bind fun r24 =>
 some ((x.2.1.1,x.2.1.2.1,x.2.1.2.2.1,x.2.1.2.2.2.1,x.2.1.2.2.2.2.1,r23.1,r24.1),x.2.2)
abbrev Zng:=Spec.shp Zg8 Zju Zo
def Z9p:Ctx:={ tb:=mkTb T2.tbl,fx:=[(164,[],Zqh)],sum:=[],nt:=32,pin:=1,nr:=true,ys:=[] }
theorem Zp:Sound Tryz.prog 205 (Zng) :=
 Sound.shp (C:=Z9p) (fn:=Tryz.f205) (by kernel_rfl) (c:=bodyOf Tryz.f205) (by kernel_rfl) (by decide) (ctxOK mixed tbl_ok rfl ⟨Z6y,trivial⟩ trivial) (SumOK.of trivial) (by kernel_rfl) Zg8 Zju rfl (by decide) (by decide) rfl (by decide) rfl Zo (fun x=>by kernel_rfl)
abbrev Zga:Shape:={ sl:=sl_15,bl:=bl_12,ts:=[y42],pin:=0 }
abbrev Zjw:Shape:={ sl:=sl_2,bl:=bl_12,ts:=[(.int .i64),y42],pin:=1 }
def Zs (x:(T46)):Option (Int × T46) :=
 some (x.1.2.2.2.1,(x.1.1,x.1.2.1,x.1.2.2.1,(IntKind.wrap .i64 (x.1.2.2.2.1+(1:Int))),(IntKind.wrap .i64 (x.1.2.2.2.2.1+(1:Int))),x.1.2.2.2.2.2),x.2)
abbrev Zni:=Spec.shp Zga Zjw Zs
def Z9r:Ctx:={ tb:=mkTb T2.tbl,fx:=[],sum:=[],nt:=28,pin:=1,nr:=true,ys:=[] }
theorem Zt:Sound Tryz.prog 209 (Zni) :=
 Sound.shp (C:=Z9r) (fn:=Tryz.f209) (by kernel_rfl) (c:=bodyOf Tryz.f209) (by kernel_rfl) (by decide) (ctxOK mixed tbl_ok rfl trivial trivial) (SumOK.of trivial) (by kernel_rfl) Zga Zjw rfl (by decide) (by decide) rfl (by decide) rfl Zs (fun x=>by kernel_rfl)
abbrev Ziq:Shape:={ sl:=[(0,(.hole y0))],bl:=[],ts:=[y0],pin:=0 }
abbrev Zmc:Shape:={ sl:=[(0,(.sl 0))],bl:=bl_14,ts:=[y0],pin:=0 }
def Z5q (x:(List Int)):Option (List Int) :=
 bif (@Nat.beq (List.length x) (0:Nat)) then
 amb (
 some ([]:List Int)) (
 bif (fits ((List.length ([]:List Int))+(List.length x))) then
 some (([]:List Int)++x)
 else
 none)
 else
 bif (fits ((List.length ([]:List Int))+(List.length x))) then
 some (([]:List Int)++x)
 else
 none
abbrev Zpx:=Spec.shp Ziq Zmc Z5q
def Zcu:Ctx:={ tb:=mkTb T2.tbl,fx:=[],sum:=[],nt:=8,pin:=0,nr:=true,ys:=[] }
theorem Z5r:Sound Tryz.prog 238 (Zpx) :=
 Sound.shp (C:=Zcu) (fn:=Tryz.f238) (by kernel_rfl) (c:=bodyOf Tryz.f238) (by kernel_rfl) (by decide) (ctxOK mixed tbl_ok rfl trivial trivial) (SumOK.of trivial) (by kernel_rfl) Ziq Zmc rfl (by decide) (by decide) rfl (by decide) rfl Z5q (fun x=>by kernel_rfl)
abbrev Zik:Shape:={ sl:=[(0,(.one (.pr (.hole (.int .i64)) (.pr (.hole (.int .i64)) (.pr (.sl 0) (.hole (.int .i64))))))),(1,(.hole (.int .i64)))],bl:=bl_14,ts:=[(.int .i64),(.int .i64),(.int .i64),(.int .i64),y0],pin:=0 }
abbrev Zm6:Shape:={ sl:=sl_2,bl:=bl_14,ts:=[(.int .i64),y0],pin:=1 }
def Z5d (x:(Int × Int × Int × Int × List Int)):Option T3 :=
 bif (x.1 != (0:Int)) then
 some ((Int.tmod (IntKind.wrap .i64 (x.2.1+x.2.2.2.1)) x.1),x.2.2.2.2)
 else
 none
abbrev Zpr:=Spec.shp Zik Zm6 Z5d
def Zco:Ctx:={ tb:=mkTb T2.tbl,fx:=[],sum:=[],nt:=14,pin:=1,nr:=true,ys:=[] }
theorem Z5e:Sound Tryz.prog 232 (Zpr) :=
 Sound.shp (C:=Zco) (fn:=Tryz.f232) (by kernel_rfl) (c:=bodyOf Tryz.f232) (by kernel_rfl) (by decide) (ctxOK mixed tbl_ok rfl trivial trivial) (SumOK.of trivial) (by kernel_rfl) Zik Zm6 rfl (by decide) (by decide) rfl (by decide) rfl Z5d (fun x=>by kernel_rfl)
abbrev Zif:Shape:={ sl:=sl_12,bl:=[],ts:=[y21,(.int .i64)],pin:=0 }
abbrev Zm1:Shape:={ sl:=sl_12,bl:=[],ts:=[y21,(.int .i64)],pin:=0 }
def Z54 (x:(T16 × Int)):Option (T16 × Int) :=
 (Z56 x.1).bind fun r25 =>
 bif (Bool.not r25) then
 some (((0:Int),(0:Int),([]:List Int),(0:Int)),(1:Int))
 else
 bif (x.1.2.2.2 == x.1.1) then
 some (((0:Int),(0:Int),([]:List Int),(0:Int)),(5:Int))
 else
 (Z5q x.1.2.2.1).bind fun r26 =>
 (Z5d (x.1.1,x.1.2.1,x.1.2.2.2,x.1.2.2.2,r26)).bind fun r27 =>
 bif (inb r27.1 (List.length r27.2)) then
 some ((x.1.1,x.1.2.1,(List.set r27.2 (toN r27.1) x.2),(IntKind.wrap .i64 (x.1.2.2.2+(1:Int)))),(0:Int))
 else
 none
abbrev Zpm:=Spec.shp Zif Zm1 Z54
def Zci:Ctx:={ tb:=mkTb T2.tbl,fx:=[(196,[],Zpn),(238,[],Zpx),(232,[2000000],Zpr)],sum:=[],nt:=38,pin:=0,nr:=true,ys:=[] }
theorem Z55:Sound Tryz.prog 235 (Zpm) :=
 Sound.shp (C:=Zci) (fn:=Tryz.f235) (by kernel_rfl) (c:=bodyOf Tryz.f235) (by kernel_rfl) (by decide) (ctxOK mixed tbl_ok rfl ⟨Z57,Z5r,Z5e,trivial⟩ trivial) (SumOK.of trivial) (by kernel_rfl) Zif Zm1 rfl (by decide) (by decide) rfl (by decide) rfl Z54 (fun x=>by kernel_rfl)
abbrev Zgc:Shape:={ sl:=sl_15,bl:=bl_12,ts:=[y42],pin:=0 }
abbrev Zjy:Shape:={ sl:=sl_2,bl:=bl_12,ts:=[(.int .i64),y42],pin:=1 }
def Zw (x:(T46)):Option (Int × T46) :=
 (Z54 (x.1.2.2.1,x.1.2.2.2.1)).bind fun r24 =>
 some (x.1.2.2.2.1,(x.1.1,x.1.2.1,r24.1,(IntKind.wrap .i64 (x.1.2.2.2.1+(1:Int))),x.1.2.2.2.2),x.2)
abbrev Znk:=Spec.shp Zgc Zjy Zw
def Z9t:Ctx:={ tb:=mkTb T2.tbl,fx:=[(235,[],Zpm)],sum:=[],nt:=33,pin:=1,nr:=true,ys:=[] }
theorem Zx:Sound Tryz.prog 208 (Znk) :=
 Sound.shp (C:=Z9t) (fn:=Tryz.f208) (by kernel_rfl) (c:=bodyOf Tryz.f208) (by kernel_rfl) (by decide) (ctxOK mixed tbl_ok rfl ⟨Z55,trivial⟩ trivial) (SumOK.of trivial) (by kernel_rfl) Zgc Zjy rfl (by decide) (by decide) rfl (by decide) rfl Zw (fun x=>by kernel_rfl)
abbrev Zje:Shape:={ sl:=[(0,(.hole (.slice y5))),(1,(.hole y5))],bl:=[],ts:=[(.slice y5),y5],pin:=0 }
abbrev Zn0:Shape:={ sl:=sl_23,bl:=[],ts:=ts_12,pin:=0 }
def Z74 (x:(List (T7) × T7)):Option T15 :=
 (Z76 x.1).bind fun r24 =>
 bif (Bool.not r24) then
 some (([]:List T7),(1:Int))
 else
 (Z7a x.2).bind fun r25 =>
 bif (Bool.not r25) then
 some (([]:List T7),(1:Int))
 else
 (Z7c x.1).bind fun r26 =>
 bif (decide ((@mlook (Int × Int) (Int) (Ty.beq y4) (Ty.zero (.int .i64)) (x.2.1,x.2.2.1) r26) > (0:Int))) then
 some (([]:List T7),(7:Int))
 else
 bif ((((List.length x.1):Nat):Int) == (64:Int)) then
 some (([]:List T7),(5:Int))
 else
 (Z5o x.1).bind fun r27 =>
 bif (fits ((List.length r27)+(List.length (x.2 :: ([]:List T7))))) then
 some ((r27++(x.2 :: ([]:List T7))),(0:Int))
 else
 none
abbrev Zql:=Spec.shp Zje Zn0 Z74
def Zdt:Ctx:={ tb:=mkTb T2.tbl,fx:=[(161,[],Zqm),(199,[],Zqo),(200,[],Zqp),(202,[],Zpw)],sum:=[],nt:=34,pin:=0,nr:=true,ys:=[] }
theorem Z75:Sound Tryz.prog 171 (Zql) :=
 Sound.shp (C:=Zdt) (fn:=Tryz.f171) (by kernel_rfl) (c:=bodyOf Tryz.f171) (by kernel_rfl) (by decide) (ctxOK mixed tbl_ok rfl ⟨Z79,Z7b,Z7d,Z5p,trivial⟩ trivial) (SumOK.of trivial) (by kernel_rfl) Zje Zn0 rfl (by decide) (by decide) rfl (by decide) rfl Z74 (fun x=>by kernel_rfl)
end
end Go.Proofs.YthdlpkdojipfhaaGreat.VX.VxM_M

