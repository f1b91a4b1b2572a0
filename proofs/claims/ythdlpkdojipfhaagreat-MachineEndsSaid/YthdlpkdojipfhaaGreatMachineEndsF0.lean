/- Laid for the law MachineEnds. -/
import Derived.Test.YthdlpkdojipfhaaGreatMachineEndsE15
import Derived.Test.YthdlpkdojipfhaaGreatMachineEndsE16
set_option linter.unusedVariables false
set_option maxRecDepth 100000
namespace Go.Proofs.YthdlpkdojipfhaaGreat.VX.VxM_M
open Go.Proofs Go.Proofs.YthdlpkdojipfhaaGreat.VX.T2
noncomputable section
theorem mixed:Tryz.prog.follows .mixedOrders=true:=by kernel_rfl
abbrev T0:=Bool × Int
abbrev T1:=Int × Bool
abbrev T2:=List Int × Int
abbrev T3:=Int × List Int
abbrev T4:=Int × Int × Int
abbrev T5:=(List Int) × Int
abbrev T6:=List (Int × Int)
abbrev T7:=Int × (Int × Int)
abbrev T8:=(Int × Int) × Int
abbrev T9:=List Int × Int × Int
abbrev T11:=List (Int × Int) × Int × Int × (Int × Int)
abbrev T12:=List T0 × Bool
abbrev T13:=Int × List (T7)
abbrev T14:=Int × (List T7)
abbrev T15:=List (T7) × Int
abbrev T16:=Int × (Int × T2)
abbrev T17:=Int × (Int × T1)
abbrev T18:=Bool × List (T7)
abbrev T19:=Int × (Int × T5)
abbrev T20:=Int × (Int × T7)
abbrev T21:=(List T0) × Bool
abbrev T22:=Bool × (List T7)
abbrev T23:=Int × (T7 × Int)
abbrev T24:=List (T7) × List (T7)
abbrev T25:=(List T7) × (List T7)
abbrev T26:=List (T7) × List (T7) × Int × Int
abbrev T29:=(Int × T13)
abbrev T30:=(Int × T13) × T7
abbrev T31:=Int × (Int × T24)
abbrev T32:=Int × (Int × T25)
abbrev T33:=Int × T16 × List Int
abbrev T34:=(Int × T13) × Int × Int
abbrev T35:=List (T12) × List (List (T7))
abbrev T39:=Int × (Int × T35)
abbrev T40:=Bool × (T16 × T31)
abbrev T41:=Bool × (T19 × T32)
abbrev T42:=List T29 × (Int × Int)
abbrev T43:=(Int × T40)
abbrev T44:=List (T18) × T42
abbrev T45:=(Int × T40) × T7
abbrev T46:=(Int × T40) × Int
abbrev T47:=List Int × (Int × T39)
abbrev T48:=(Int × T40) × (Int × T23) × Int
abbrev T49:=List T43 × T44
abbrev T50:=T47 × List (T7)
abbrev T53:=List (T12) × Int × Int × T47
abbrev T54:=List (List (T7)) × Int × Int × T47
abbrev T56:=Int × List (T7) × List (List (T7)) × Int × Int × List (T7) × Int × Int × T47
abbrev T57:=T47 × (Int × Int) × List (T17) × List T43 × List (T18) × List T29 × List (T20)
abbrev T58:=Int × T47 × (Int × Int) × List (T17) × List T43 × List (T18) × List T29 × List (T20)
abbrev T60:=(Int × Int) × T7 × T47 × (Int × Int) × List (T17) × List T43 × List (T18) × List T29 × List (T20)
abbrev T61:=List (T17) × T49
abbrev T62:=(T47 × T61)
abbrev T67:=List (T17) × Int × Int × (T47 × T61) × List (Int × Int)
abbrev T68:=Int × List T0 × Int × Int × (T47 × T61) × List (Int × Int)
abbrev y0:Ty:=.slice (.int .i64)
abbrev y1:Ty:=.arr 8 (.int .i64)
abbrev y2:Ty:=.pair .bool (.int .i64)
abbrev y3:Ty:=.pair (.int .i64) .bool
abbrev y4:Ty:=.pair (.int .i64) (.int .i64)
abbrev y5:Ty:=.pair (.int .i64) y4
abbrev y6:Ty:=.pair y0 (.int .i64)
abbrev y7:Ty:=.pair (.int .i64) y3
abbrev y8:Ty:=.pair y4 (.int .i64)
abbrev y9:Ty:=.pair (.slice y2) .bool
abbrev y10:Ty:=.slice (.slice y5)
abbrev y11:Ty:=.pair (.int .i64) y6
abbrev y12:Ty:=.pair (.int .i64) y7
abbrev y13:Ty:=.pair (.int .i64) y5
abbrev y14:Ty:=.pair y5 (.int .i64)
abbrev y15:Ty:=.pair .bool (.slice y5)
abbrev y16:Ty:=.pair (.slice y5) (.slice y5)
abbrev y17:Ty:=.pair (.int .i64) (.slice y5)
abbrev y18:Ty:=.slice y12
abbrev y19:Ty:=.slice y15
abbrev y20:Ty:=.pair (.slice y9) y10
abbrev y21:Ty:=.pair (.int .i64) y11
abbrev y22:Ty:=.pair (.int .i64) y16
abbrev y23:Ty:=.pair (.int .i64) y17
abbrev y24:Ty:=.pair (.int .i64) y13
abbrev y25:Ty:=.pair (.int .i64) y14
abbrev y26:Ty:=.slice y23
abbrev y27:Ty:=.slice y24
abbrev y28:Ty:=.pair (.int .i64) y20
abbrev y29:Ty:=.pair (.int .i64) y22
abbrev y30:Ty:=.pair (.int .i64) y25
abbrev y31:Ty:=.pair y26 y4
abbrev y32:Ty:=.pair y21 y29
abbrev y33:Ty:=.pair (.int .i64) y28
abbrev y35:Ty:=.pair y19 y31
abbrev y36:Ty:=.pair .bool y32
abbrev y37:Ty:=.pair (.int .i64) y33
abbrev y39:Ty:=.pair y0 y37
abbrev y40:Ty:=.pair (.int .i64) y36
abbrev y41:Ty:=.slice y40
abbrev y42:Ty:=.pair y40 (.int .i64)
abbrev y43:Ty:=.pair y41 y35
abbrev y44:Ty:=.pair y18 y43
abbrev y45:Ty:=.pair y39 y44
abbrev bl_0:List BPat:=[.var (.hole y39)]
abbrev bl_1:List BPat:=[.var (.pr (.pr .nl (.pr (.hole (.int .i64)) (.pr (.hole (.int .i64)) (.pr (.hole (.int .i64)) (.pr .nl .nl))))) (.pr .nl (.pr .nl (.pr .nl (.pr .nl (.hole y4)))))),.var (.pr (.hole y39) (.pr (.sl 2) (.pr (.sl 3) (.pr (.sl 4) (.pr (.sl 5) (.hole y4)))))),.row y12,.row y40,.row y15,.row y23]
abbrev bl_2:List BPat:=[.var (.pr (.pr (.hole y39) (.pr (.sl 1) (.pr (.sl 2) (.pr (.sl 3) (.pr (.sl 4) (.hole y4)))))) (.sl 5)),.row y12,.row y40,.row y15,.row y23,.row y24]
abbrev bl_3:List BPat:=[.var (.hole (.int .i64))]
abbrev bl_4:List BPat:=[.row y12,.var (.hole (.int .i64))]
abbrev bl_5:List BPat:=[.var (.ptr 1 []),.var (.pr (.pr (.hole y39) (.pr (.sl 2) (.pr (.sl 3) (.pr (.sl 4) (.pr (.sl 5) (.hole y4)))))) (.sl 6)),.row y12,.row y40,.row y15,.row y23,.row y24]
abbrev bl_6:List BPat:=[.lp 10485766 [4] (.cons (.ptr 2 []) .nil),.var (.hole (.one y21)),.var (.sl 3),.row (.int .i64)]
abbrev bl_7:List BPat:=[.lpt 10485766 [4] (.cons (.ptr 2 []) .nil),.var (.hole (.one y21)),.var (.sl 3),.row (.int .i64)]
abbrev bl_8:List BPat:=[.var (.hole y45),.var (.hole (.int .i64)),.var (.hole .bool)]
abbrev bl_9:List BPat:=[.var (.hole y45)]
abbrev bl_10:List BPat:=[.var (.hole y45),.var (.hole (.int .i64)),.var (.hole (.int .i64))]
abbrev bl_11:List BPat:=[.row y5,.var (.hole (.int .i64))]
abbrev bl_12:List BPat:=[.var (.hole y42)]
abbrev bl_13:List BPat:=[.var (.hole y45),.row y4]
abbrev bl_14:List BPat:=[.row (.int .i64)]
abbrev bl_15:List BPat:=[.var (.pr (.pr (.hole y39) (.pr (.sl 2) (.pr (.sl 3) (.pr (.sl 4) (.pr (.sl 5) (.hole y4)))))) (.sl 6)),.var (.hole y4),.row y12,.row y40,.row y15,.row y23,.row y24]
abbrev bl_16:List BPat:=[.var (.hole (.int .i64)),.var (.pr (.pr .nl (.pr (.hole (.int .i64)) (.pr (.hole (.int .i64)) (.pr (.hole (.int .i64)) (.pr .nl .nl))))) (.pr .nl (.pr .nl (.pr .nl (.pr .nl (.hole y4)))))),.var (.hole y45)]
abbrev bl_17:List BPat:=[.var (.hole (.int .i64)),.var (.hole y45),.var (.hole y45),.var (.hole y45),.row y5]
abbrev ts_0:List Ty:=[(.int .i64),(.int .i64),(.int .i64)]
abbrev ts_1:List Ty:=[.bool]
abbrev ts_2:List Ty:=[(.int .i64)]
abbrev ts_3:List Ty:=[y0,(.int .i64),(.int .i64)]
abbrev ts_4:List Ty:=[(.slice y9),(.int .i64),(.int .i64),y39]
abbrev ts_5:List Ty:=[(.int .i64),(.int .i64)]
abbrev ts_6:List Ty:=[y39,(.slice y5)]
abbrev ts_7:List Ty:=[(.int .i64),(.slice y5),y10,(.int .i64),(.int .i64),(.slice y5),(.int .i64),(.int .i64),y39]
abbrev ts_8:List Ty:=[y10,(.int .i64),(.int .i64),y39]
abbrev ts_9:List Ty:=[(.int .i64),(.int .i64),(.int .i64),y4,y39,y4,y18,y41,y19,y26]
abbrev ts_10:List Ty:=[(.int .i64),y39,y4,y18,y41,y19,y26,y27]
abbrev ts_11:List Ty:=[y39,y4,y18,y41,y19,y26,y27]
abbrev ts_12:List Ty:=[(.slice y5),(.int .i64)]
abbrev ts_13:List Ty:=[(.int .i64),(.slice y2),(.int .i64),(.int .i64),y45,(.slice y4)]
abbrev ts_14:List Ty:=[y4,y5,y39,y4,y18,y41,y19,y26,y27]
abbrev ts_15:List Ty:=[y23,(.int .i64),(.int .i64)]
abbrev sl_0:List (Nat × Pat):=[(0,(.hole (.int .i64))),(1,(.hole (.int .i64))),(2,(.hole (.int .i64)))]
abbrev sl_1:List (Nat × Pat):=[(0,(.hole .bool))]
abbrev sl_2:List (Nat × Pat):=[(0,(.hole (.int .i64)))]
abbrev sl_3:List (Nat × Pat):=[(4,(.hole (.int .i64)))]
abbrev sl_4:List (Nat × Pat):=[(0,(.hole (.slice y2))),(1,(.fn 194 .nil (.cons (.ptr 0 []) .nil)))]
abbrev sl_5:List (Nat × Pat):=[(2,(.hole (.int .i64))),(3,(.hole (.int .i64)))]
abbrev sl_6:List (Nat × Pat):=[(0,(.hole y39))]
abbrev sl_7:List (Nat × Pat):=[(0,(.hole (.int .i64))),(1,(.hole (.int .i64)))]
abbrev sl_8:List (Nat × Pat):=[(0,(.hole y39)),(1,(.hole (.slice y5)))]
abbrev sl_9:List (Nat × Pat):=[(1,(.ptr 0 [])),(7,(.hole (.int .i64))),(8,(.hole (.slice y5))),(22,(.hole y10)),(23,(.hole (.int .i64))),(24,(.hole (.int .i64))),(33,(.hole (.slice y5))),(34,(.hole (.int .i64))),(35,(.hole (.int .i64)))]
abbrev sl_10:List (Nat × Pat):=[(2,(.hole (.int .i64))),(3,(.hole (.int .i64))),(4,(.hole (.int .i64)))]
abbrev sl_11:List (Nat × Pat):=[(1,(.ptr 0 [])),(22,(.hole y10)),(23,(.hole (.int .i64))),(24,(.hole (.int .i64)))]
abbrev sl_12:List (Nat × Pat):=[(0,(.hole y21)),(1,(.hole (.int .i64)))]
abbrev sl_13:List (Nat × Pat):=[(0,(.hole y40)),(1,(.hole (.int .i64)))]
abbrev sl_14:List (Nat × Pat):=[(0,(.ptr 0 [])),(1,(.hole (.int .i64))),(2,(.hole (.int .i64)))]
abbrev sl_15:List (Nat × Pat):=[(0,(.ptr 0 []))]
abbrev sl_16:List (Nat × Pat):=[(0,(.hole y0)),(1,(.hole (.int .i64)))]
abbrev sl_17:List (Nat × Pat):=[(0,(.hole y5))]
abbrev sl_18:List (Nat × Pat):=[(0,(.hole (.slice y5)))]
abbrev sl_19:List (Nat × Pat):=[(0,(.hole y0)),(1,(.hole (.int .i64))),(2,(.hole (.int .i64)))]
abbrev sl_20:List (Nat × Pat):=[(0,(.hole y5)),(1,(.ptr 0 [])),(2,(.ptr 1 [])),(3,(.ptr 2 []))]
abbrev sl_21:List (Nat × Pat):=[(0,(.hole (.slice y5))),(1,(.fn 110 .nil (.cons (.ptr 0 []) (.cons (.ptr 1 []) (.cons (.ptr 2 []) .nil)))))]
abbrev sl_22:List (Nat × Pat):=[(0,(.hole (.slice y5))),(1,(.fn 115 .nil (.cons (.ptr 0 []) (.cons (.ptr 1 []) (.cons (.ptr 2 []) .nil)))))]
abbrev sl_23:List (Nat × Pat):=[(0,(.hole (.slice y5))),(1,(.hole (.int .i64)))]
abbrev sl_24:List (Nat × Pat):=[(0,(.hole (.slice y4))),(1,(.hole y4))]
abbrev sl_25:List (Nat × Pat):=[(0,(.ptr 0 [])),(1,(.hole (.int .i64)))]
abbrev sl_26:List (Nat × Pat):=[(0,(.ptr 0 [])),(1,(.hole y4)),(2,(.hole y5))]
abbrev sl_27:List (Nat × Pat):=[(0,(.hole y40)),(1,(.hole y5))]
abbrev sl_28:List (Nat × Pat):=[(0,(.hole y40)),(1,(.hole y30)),(2,(.hole (.int .i64)))]
abbrev sl_29:List (Nat × Pat):=[(0,(.ptr 0 [])),(1,(.hole y5)),(2,(.hole (.int .i64))),(3,(.hole .bool))]
abbrev sl_30:List (Nat × Pat):=[(0,(.hole y23)),(1,(.hole y5))]
abbrev sl_31:List (Nat × Pat):=[(0,(.hole y23)),(1,(.hole (.int .i64))),(2,(.hole (.int .i64)))]
abbrev Zhb:Shape:={ sl:=sl_0,bl:=[],ts:=ts_0,pin:=0 }
abbrev Zkw:Shape:={ sl:=sl_1,bl:=[],ts:=ts_1,pin:=0 }
def Z46 (x:T4):Option (Bool) :=
 bif (decide (x.1 ≥ x.2.1)) then
 some (decide (x.1 ≤ x.2.2))
 else
 some false
abbrev Zoh:=Spec.shp Zhb Zkw Z46
def Zbm:Ctx:={ tb:=mkTb T2.tbl,fx:=[],sum:=[],nt:=15,pin:=0,nr:=true,ys:=[] }
theorem Z47:Sound Tryz.prog 191 (Zoh) :=
 Sound.shp (C:=Zbm) (fn:=Tryz.f191) (by kernel_rfl) (c:=bodyOf Tryz.f191) (by kernel_rfl) (by decide) (ctxOK mixed tbl_ok rfl trivial trivial) (SumOK.of trivial) (by kernel_rfl) Zhb Zkw rfl (by decide) (by decide) rfl (by decide) rfl Z46 (fun x=>by kernel_rfl)
abbrev Zhk:Shape:={ sl:=sl_2,bl:=[],ts:=ts_2,pin:=0 }
abbrev Zl5:Shape:={ sl:=sl_1,bl:=[],ts:=ts_1,pin:=0 }
def Z4n (x:(Int)):Option (Bool) :=
 (Z46 (x,(Int.negSucc 0),(3:Int))).bind fun r14 =>
 some (Bool.not r14)
abbrev Zoq:=Spec.shp Zhk Zl5 Z4n
def Zbv:Ctx:={ tb:=mkTb T2.tbl,fx:=[(191,[],Zoh)],sum:=[],nt:=6,pin:=0,nr:=true,ys:=[] }
theorem Z4o:Sound Tryz.prog 192 (Zoq) :=
 Sound.shp (C:=Zbv) (fn:=Tryz.f192) (by kernel_rfl) (c:=bodyOf Tryz.f192) (by kernel_rfl) (by decide) (ctxOK mixed tbl_ok rfl ⟨Z47,trivial⟩ trivial) (SumOK.of trivial) (by kernel_rfl) Zhk Zl5 rfl (by decide) (by decide) rfl (by decide) rfl Z4n (fun x=>by kernel_rfl)
abbrev Zf7:Shape:={ sl:=[(0,(.hole y0)),(1,(.fn 192 .nil .nil)),(7,(.hole (.int .i64))),(8,(.hole (.int .i64)))],bl:=[],ts:=ts_3,pin:=0 }
abbrev Zec:List (ETag × Shape):=[(.ret,{ sl:=sl_3,bl:=[],ts:=ts_2,pin:=0 }),(.exit 0,{ sl:=[],bl:=[],ts:=[],pin:=0 })]
def Z8x (x:T9):Option (T9 ⊕ ((Int) ⊕ Unit)) :=
 bif (decide (x.2.2 < x.2.1)) then
 bif (inb x.2.2 (List.length x.1)) then
 (Z4n (getAt (0:Int) x.1 (toN x.2.2))).bind fun r13 =>
 bif r13 then
 some (.inr (.inl x.2.2))
 else
 some (.inl (x.1,x.2.1,(IntKind.wrap .i64 (x.2.2+(1:Int)))))
 else
 none
 else
 some (.inr (.inr ()))
def Zd7:Ctx:={ tb:=mkTb T2.tbl,fx:=[(192,[],Zoq)],sum:=[],nt:=19,pin:=0,nr:=true,ys:=[] }
theorem Z8y:CSound Tryz.prog ⟨19,0,true⟩ (.loop (loopOf 3 Tryz.f140)) (Yah Zf7 Zec (loop Z8x)) :=
 Y81 (C:=Zd7) (ctxOK mixed tbl_ok rfl ⟨Z4o,trivial⟩ trivial) (SumOK.of trivial) Zf7 Zec rfl rfl Z8x (fun x=>by kernel_rfl)
abbrev Zik:Shape:={ sl:=[(0,(.hole y0)),(1,(.fn 192 .nil .nil))],bl:=[],ts:=[y0],pin:=0 }
abbrev Zm5:Shape:={ sl:=sl_2,bl:=[],ts:=ts_2,pin:=0 }
def Z6o (x:(List Int)):Option (Int) :=
 (loop Z8x (x,(((List.length x):Nat):Int),(0:Int))).bind fun r12 =>
 match r12 with
 | .inl y13 =>
 some y13
 | .inr y13 =>
 some (Int.negSucc 0)
abbrev Zpp:=Spec.shp Zik Zm5 Z6o
def Zd6:Ctx:={ tb:=mkTb T2.tbl,fx:=[(192,[],Zoq)],sum:=[(0,3,Yah Zf7 Zec (loop Z8x))],nt:=19,pin:=0,nr:=true,ys:=[] }
theorem Z6p:Sound Tryz.prog 140 (Zpp) :=
 Sound.shp (C:=Zd6) (fn:=Tryz.f140) (by kernel_rfl) (c:=bodyOf Tryz.f140) (by kernel_rfl) (by decide) (ctxOK mixed tbl_ok rfl ⟨Z4o,trivial⟩ trivial) (SumOK.of ⟨(Yaj (d:=.loop (loopOf 3 Tryz.f140)) (by kernel_rfl) Z8y),trivial⟩) (by kernel_rfl) Zik Zm5 rfl (by decide) (by decide) rfl (by decide) rfl Z6o (fun x=>by kernel_rfl)
abbrev Zi9:Shape:={ sl:=[(0,(.hole y0)),(1,(.fn 192 .nil .nil))],bl:=[],ts:=[y0],pin:=0 }
abbrev Zlu:Shape:={ sl:=sl_1,bl:=[],ts:=ts_1,pin:=0 }
def Z62 (x:(List Int)):Option (Bool) :=
 (Z6o x).bind fun r11 =>
 some (decide (r11 ≥ (0:Int)))
abbrev Zpe:=Spec.shp Zi9 Zlu Z62
def Zcm:Ctx:={ tb:=mkTb T2.tbl,fx:=[(140,[192],Zpp)],sum:=[],nt:=9,pin:=0,nr:=true,ys:=[] }
theorem Z63:Sound Tryz.prog 86 (Zpe) :=
 Sound.shp (C:=Zcm) (fn:=Tryz.f86) (by kernel_rfl) (c:=bodyOf Tryz.f86) (by kernel_rfl) (by decide) (ctxOK mixed tbl_ok rfl ⟨Z6p,trivial⟩ trivial) (SumOK.of trivial) (by kernel_rfl) Zi9 Zlu rfl (by decide) (by decide) rfl (by decide) rfl Z62 (fun x=>by kernel_rfl)
abbrev Zhl:Shape:={ sl:=[(0,(.hole y2)),(1,(.ptr 0 []))],bl:=bl_0,ts:=[y2,y39],pin:=0 }
abbrev Zl6:Shape:={ sl:=sl_1,bl:=bl_0,ts:=[.bool,y39],pin:=1 }
def Z4p (x:(T0 × T47)):Option (Bool × T47) :=
 (Z46 (x.1.2,(0:Int),(IntKind.wrap .i64 ((((List.length x.2.1):Nat):Int) - (1:Int))))).bind fun r16 =>
 some ((Bool.not r16),x.2)
abbrev Zor:=Spec.shp Zhl Zl6 Z4p
def Zbw:Ctx:={ tb:=mkTb T2.tbl,fx:=[(191,[],Zoh)],sum:=[],nt:=12,pin:=1,nr:=true,ys:=[] }
theorem Z4q:Sound Tryz.prog 194 (Zor) :=
 Sound.shp (C:=Zbw) (fn:=Tryz.f194) (by kernel_rfl) (c:=bodyOf Tryz.f194) (by kernel_rfl) (by decide) (ctxOK mixed tbl_ok rfl ⟨Z47,trivial⟩ trivial) (SumOK.of trivial) (by kernel_rfl) Zhl Zl6 rfl (by decide) (by decide) rfl (by decide) rfl Z4p (fun x=>by kernel_rfl)
abbrev Zez:Shape:={ sl:=[(0,(.hole (.slice y2))),(1,(.fn 194 .nil (.cons (.ptr 0 []) .nil))),(7,(.hole (.int .i64))),(8,(.hole (.int .i64)))],bl:=bl_0,ts:=[(.slice y2),(.int .i64),(.int .i64),y39],pin:=1 }
abbrev Ze4:List (ETag × Shape):=[(.ret,{ sl:=sl_3,bl:=bl_0,ts:=[(.int .i64),y39],pin:=1 }),(.exit 0,{ sl:=[],bl:=bl_0,ts:=[y39],pin:=1 })]
def Z8h (x:(List T0 × Int × Int × T47)):Option ((List T0 × Int × Int × T47) ⊕ ((Int × T47) ⊕ (T47))) :=
 bif (decide (x.2.2.1 < x.2.1)) then
 bif (inb x.2.2.1 (List.length x.1)) then
 (Z4p ((getAt (false,(0:Int)) x.1 (toN x.2.2.1)),x.2.2.2)).bind fun r15 =>
 bif r15.1 then
 some (.inr (.inl (x.2.2.1,r15.2)))
 else
 some (.inl (x.1,x.2.1,(IntKind.wrap .i64 (x.2.2.1+(1:Int))),r15.2))
 else
 none
 else
 some (.inr (.inr x.2.2.2))
def Zcr:Ctx:={ tb:=mkTb T2.tbl,fx:=[(194,[],Zor)],sum:=[],nt:=19,pin:=1,nr:=true,ys:=[] }
theorem Z8i:CSound Tryz.prog ⟨19,1,true⟩ (.loop (loopOf 3 Tryz.f222)) (Yah Zez Ze4 (loop Z8h)) :=
 Y81 (C:=Zcr) (ctxOK mixed tbl_ok rfl ⟨Z4q,trivial⟩ trivial) (SumOK.of trivial) Zez Ze4 rfl rfl Z8h (fun x=>by kernel_rfl)
abbrev Zic:Shape:={ sl:=sl_4,bl:=bl_0,ts:=[(.slice y2),y39],pin:=0 }
abbrev Zlx:Shape:={ sl:=sl_2,bl:=bl_0,ts:=[(.int .i64),y39],pin:=1 }
def Z68 (x:(List T0 × T47)):Option (Int × T47) :=
 (loop Z8h (x.1,(((List.length x.1):Nat):Int),(0:Int),x.2)).bind fun r14 =>
 match r14 with
 | .inl y15 =>
 some (y15.1,y15.2)
 | .inr y15 =>
 some ((Int.negSucc 0),y15)
abbrev Zph:=Spec.shp Zic Zlx Z68
def Zcq:Ctx:={ tb:=mkTb T2.tbl,fx:=[(194,[],Zor)],sum:=[(0,3,Yah Zez Ze4 (loop Z8h))],nt:=19,pin:=1,nr:=true,ys:=[] }
theorem Z69:Sound Tryz.prog 222 (Zph) :=
 Sound.shp (C:=Zcq) (fn:=Tryz.f222) (by kernel_rfl) (c:=bodyOf Tryz.f222) (by kernel_rfl) (by decide) (ctxOK mixed tbl_ok rfl ⟨Z4q,trivial⟩ trivial) (SumOK.of ⟨(Yaj (d:=.loop (loopOf 3 Tryz.f222)) (by kernel_rfl) Z8i),trivial⟩) (by kernel_rfl) Zic Zlx rfl (by decide) (by decide) rfl (by decide) rfl Z68 (fun x=>by kernel_rfl)
abbrev Zi3:Shape:={ sl:=sl_4,bl:=bl_0,ts:=[(.slice y2),y39],pin:=0 }
abbrev Zlo:Shape:={ sl:=sl_1,bl:=bl_0,ts:=[.bool,y39],pin:=1 }
def Z5q (x:(List T0 × T47)):Option (Bool × T47) :=
 (Z68 (x.1,x.2)).bind fun r13 =>
 some ((decide (r13.1 ≥ (0:Int))),r13.2)
abbrev Zp8:=Spec.shp Zi3 Zlo Z5q
def Zcg:Ctx:={ tb:=mkTb T2.tbl,fx:=[(222,[194],Zph)],sum:=[],nt:=9,pin:=1,nr:=true,ys:=[] }
theorem Z5r:Sound Tryz.prog 193 (Zp8) :=
 Sound.shp (C:=Zcg) (fn:=Tryz.f193) (by kernel_rfl) (c:=bodyOf Tryz.f193) (by kernel_rfl) (by decide) (ctxOK mixed tbl_ok rfl ⟨Z69,trivial⟩ trivial) (SumOK.of trivial) (by kernel_rfl) Zi3 Zlo rfl (by decide) (by decide) rfl (by decide) rfl Z5q (fun x=>by kernel_rfl)
abbrev Zew:Shape:={ sl:=[(1,(.ptr 0 [])),(45,(.hole (.slice y9))),(46,(.hole (.int .i64))),(47,(.hole (.int .i64)))],bl:=bl_0,ts:=ts_4,pin:=0 }
abbrev Ze1:List (ETag × Shape):=[(.ret,{ sl:=sl_5,bl:=[],ts:=ts_5,pin:=0 }),(.exit 0,{ sl:=[],bl:=[],ts:=[],pin:=0 })]
def Z8b (x:T53):Option (T53 ⊕ ((Int × Int) ⊕ Unit)) :=
 bif (decide (x.2.2.1 < x.2.1)) then
 bif (inb x.2.2.1 (List.length x.1)) then
 bif (decide ((((List.length (getAt (([]:List T0),false) x.1 (toN x.2.2.1)).1):Nat):Int) > (4:Int))) then
 some (.inr (.inl (x.2.2.1,(2:Int))))
 else
 (Z5q ((getAt (([]:List T0),false) x.1 (toN x.2.2.1)).1,x.2.2.2)).bind fun r12 =>
 bif r12.1 then
 some (.inr (.inl (x.2.2.1,(3:Int))))
 else
 some (.inl (x.1,x.2.1,(IntKind.wrap .i64 (x.2.2.1+(1:Int))),r12.2))
 else
 none
 else
 some (.inr (.inr ()))
def Zbx:Ctx:={ tb:=mkTb T2.tbl,fx:=[(191,[],Zoh),(86,[192],Zpe),(193,[194],Zp8)],sum:=[],nt:=65,pin:=0,nr:=true,ys:=[] }
theorem Z8c:CSound Tryz.prog ⟨65,0,true⟩ (.loop (loopOf 8 Tryz.f154)) (Yah Zew Ze1 (loop Z8b)) :=
 Y81 (C:=Zbx) (ctxOK mixed tbl_ok rfl ⟨Z47,Z63,Z5r,trivial⟩ trivial) (SumOK.of trivial) Zew Ze1 rfl rfl Z8b (fun x=>by kernel_rfl)
abbrev Zhj:Shape:={ sl:=sl_6,bl:=[],ts:=[y39],pin:=0 }
abbrev Zl4:Shape:={ sl:=sl_7,bl:=[],ts:=ts_5,pin:=0 }
def Z4m (x:(T47)):Option (Int × Int) :=
 bif (decide ((((List.length x.1):Nat):Int) ≤ (4:Int))) then
 (Z46 (x.2.1,(0:Int),(2:Int))).bind fun r6 =>
 bif r6 then
 (Z46 (x.2.2.1,(0:Int),(2:Int))).bind fun r7 =>
 bif r7 then
 (Z46 (x.2.2.2.1,(0:Int),(4:Int))).bind fun r8 =>
 bif (Bool.not r8) then
 some ((Int.negSucc 0),(2:Int))
 else
 bif (decide ((((List.length x.2.2.2.2.1):Nat):Int) > (4:Int))) then
 some ((Int.negSucc 0),(2:Int))
 else
 (Z46 ((((List.length x.2.2.2.2.2):Nat):Int),(1:Int),(6:Int))).bind fun r9 =>
 bif (Bool.not r9) then
 some ((Int.negSucc 0),(2:Int))
 else
 (Z62 x.1).bind fun r10 =>
 bif r10 then
 some ((Int.negSucc 0),(3:Int))
 else
 (loop Z8b (x.2.2.2.2.1,(((List.length x.2.2.2.2.1):Nat):Int),(0:Int),x)).bind fun r11 =>
 match r11 with
 | .inl y12 =>
 some (y12.1,y12.2)
 | .inr y12 =>
 some ((Int.negSucc 0),(0:Int))
 else
 some ((Int.negSucc 0),(2:Int))
 else
 some ((Int.negSucc 0),(2:Int))
 else
 some ((Int.negSucc 0),(2:Int))
abbrev Zop:=Spec.shp Zhj Zl4 Z4m
def Zbu:Ctx:={ tb:=mkTb T2.tbl,fx:=[(191,[],Zoh),(86,[192],Zpe),(193,[194],Zp8)],sum:=[(0,8,Yah Zew Ze1 (loop Z8b))],nt:=65,pin:=0,nr:=true,ys:=[] }
theorem Z4r:Sound Tryz.prog 154 (Zop) :=
 Sound.shp (C:=Zbu) (fn:=Tryz.f154) (by kernel_rfl) (c:=bodyOf Tryz.f154) (by kernel_rfl) (by decide) (ctxOK mixed tbl_ok rfl ⟨Z47,Z63,Z5r,trivial⟩ trivial) (SumOK.of ⟨(Yaj (d:=.loop (loopOf 8 Tryz.f154)) (by kernel_rfl) Z8c),trivial⟩) (by kernel_rfl) Zhj Zl4 rfl (by decide) (by decide) rfl (by decide) rfl Z4m (fun x=>by kernel_rfl)
abbrev Zhg:Shape:={ sl:=[],bl:=[],ts:=[],pin:=0 }
abbrev Zl1:Shape:={ sl:=[(0,(.pr (.one (.fn 223 .nil .nil)) (.pr (.one (.fn 224 .nil .nil)) (.pr (.one (.fn 224 .nil .nil)) (.pr (.one (.fn 224 .nil .nil)) (.pr (.one (.fn 225 .nil .nil)) (.pr (.one (.fn 226 .nil .nil)) (.pr (.one (.fn 226 .nil .nil)) (.pr (.one (.fn 227 .nil .nil)) (.pr (.one (.fn 227 .nil .nil)) (.pr (.one (.fn 228 .nil .nil)) (.pr (.one (.fn 229 .nil .nil)) (.pr (.one (.fn 229 .nil .nil)) (.pr (.one (.fn 230 .nil .nil)) (.one (.fn 230 .nil .nil))))))))))))))))],bl:=[],ts:=[],pin:=0 }
def Z4g (x:Unit):Option Unit :=
 some ()
abbrev Zom:=Spec.shp Zhg Zl1 Z4g
def Zbr:Ctx:={ tb:=mkTb T2.tbl,fx:=[],sum:=[],nt:=16,pin:=0,nr:=true,ys:=[] }
theorem Z4h:Sound Tryz.prog 195 (Zom) :=
 Sound.shp (C:=Zbr) (fn:=Tryz.f195) (by kernel_rfl) (c:=bodyOf Tryz.f195) (by kernel_rfl) (by decide) (ctxOK mixed tbl_ok rfl trivial trivial) (SumOK.of trivial) (by kernel_rfl) Zhg Zl1 rfl (by decide) (by decide) rfl (by decide) rfl Z4g (fun x=>by kernel_rfl)
abbrev Zhe:Shape:={ sl:=sl_8,bl:=[],ts:=ts_6,pin:=0 }
abbrev Zkz:Shape:={ sl:=sl_2,bl:=[],ts:=ts_2,pin:=0 }
def Z4c (x:T50):Option (Int) :=
 some (1:Int)
abbrev Zok:=Spec.shp Zhe Zkz Z4c
def Zbp:Ctx:={ tb:=mkTb T2.tbl,fx:=[],sum:=[],nt:=5,pin:=0,nr:=true,ys:=[] }
theorem Z4d:Sound Tryz.prog 223 (Zok) :=
 Sound.shp (C:=Zbp) (fn:=Tryz.f223) (by kernel_rfl) (c:=bodyOf Tryz.f223) (by kernel_rfl) (by decide) (ctxOK mixed tbl_ok rfl trivial trivial) (SumOK.of trivial) (by kernel_rfl) Zhe Zkz rfl (by decide) (by decide) rfl (by decide) rfl Z4c (fun x=>by kernel_rfl)
abbrev Zha:Shape:={ sl:=sl_8,bl:=[],ts:=ts_6,pin:=0 }
abbrev Zkv:Shape:={ sl:=sl_2,bl:=[],ts:=ts_2,pin:=0 }
def Z44 (x:T50):Option (Int) :=
 some (((List.length x.1.1):Nat):Int)
abbrev Zog:=Spec.shp Zha Zkv Z44
def Zbl:Ctx:={ tb:=mkTb T2.tbl,fx:=[],sum:=[],nt:=8,pin:=0,nr:=true,ys:=[] }
theorem Z45:Sound Tryz.prog 224 (Zog) :=
 Sound.shp (C:=Zbl) (fn:=Tryz.f224) (by kernel_rfl) (c:=bodyOf Tryz.f224) (by kernel_rfl) (by decide) (ctxOK mixed tbl_ok rfl trivial trivial) (SumOK.of trivial) (by kernel_rfl) Zha Zkv rfl (by decide) (by decide) rfl (by decide) rfl Z44 (fun x=>by kernel_rfl)
abbrev Zhi:Shape:={ sl:=sl_8,bl:=[],ts:=ts_6,pin:=0 }
abbrev Zl3:Shape:={ sl:=sl_2,bl:=[],ts:=ts_2,pin:=0 }
def Z4k (x:T50):Option (Int) :=
 some (((List.length x.1.2.2.2.2.1):Nat):Int)
abbrev Zoo:=Spec.shp Zhi Zl3 Z4k
def Zbt:Ctx:={ tb:=mkTb T2.tbl,fx:=[],sum:=[],nt:=8,pin:=0,nr:=true,ys:=[] }
theorem Z4l:Sound Tryz.prog 225 (Zoo) :=
 Sound.shp (C:=Zbt) (fn:=Tryz.f225) (by kernel_rfl) (c:=bodyOf Tryz.f225) (by kernel_rfl) (by decide) (ctxOK mixed tbl_ok rfl trivial trivial) (SumOK.of trivial) (by kernel_rfl) Zhi Zl3 rfl (by decide) (by decide) rfl (by decide) rfl Z4k (fun x=>by kernel_rfl)
abbrev Zhd:Shape:={ sl:=sl_8,bl:=[],ts:=ts_6,pin:=0 }
abbrev Zky:Shape:={ sl:=sl_2,bl:=[],ts:=ts_2,pin:=0 }
def Z4a (x:T50):Option (Int) :=
 some x.1.2.1
abbrev Zoj:=Spec.shp Zhd Zky Z4a
def Zbo:Ctx:={ tb:=mkTb T2.tbl,fx:=[],sum:=[],nt:=7,pin:=0,nr:=true,ys:=[] }
theorem Z4b:Sound Tryz.prog 226 (Zoj) :=
 Sound.shp (C:=Zbo) (fn:=Tryz.f226) (by kernel_rfl) (c:=bodyOf Tryz.f226) (by kernel_rfl) (by decide) (ctxOK mixed tbl_ok rfl trivial trivial) (SumOK.of trivial) (by kernel_rfl) Zhd Zky rfl (by decide) (by decide) rfl (by decide) rfl Z4a (fun x=>by kernel_rfl)
abbrev Zhf:Shape:={ sl:=sl_8,bl:=[],ts:=ts_6,pin:=0 }
abbrev Zl0:Shape:={ sl:=sl_2,bl:=[],ts:=ts_2,pin:=0 }
def Z4e (x:T50):Option (Int) :=
 some x.1.2.2.1
abbrev Zol:=Spec.shp Zhf Zl0 Z4e
def Zbq:Ctx:={ tb:=mkTb T2.tbl,fx:=[],sum:=[],nt:=7,pin:=0,nr:=true,ys:=[] }
theorem Z4f:Sound Tryz.prog 227 (Zol) :=
 Sound.shp (C:=Zbq) (fn:=Tryz.f227) (by kernel_rfl) (c:=bodyOf Tryz.f227) (by kernel_rfl) (by decide) (ctxOK mixed tbl_ok rfl trivial trivial) (SumOK.of trivial) (by kernel_rfl) Zhf Zl0 rfl (by decide) (by decide) rfl (by decide) rfl Z4e (fun x=>by kernel_rfl)
abbrev Zh9:Shape:={ sl:=sl_8,bl:=[],ts:=ts_6,pin:=0 }
abbrev Zku:Shape:={ sl:=sl_2,bl:=[],ts:=ts_2,pin:=0 }
def Z42 (x:T50):Option (Int) :=
 some (((List.length x.1.2.2.2.2.2):Nat):Int)
abbrev Zof:=Spec.shp Zh9 Zku Z42
def Zbk:Ctx:={ tb:=mkTb T2.tbl,fx:=[],sum:=[],nt:=8,pin:=0,nr:=true,ys:=[] }
theorem Z43:Sound Tryz.prog 228 (Zof) :=
 Sound.shp (C:=Zbk) (fn:=Tryz.f228) (by kernel_rfl) (c:=bodyOf Tryz.f228) (by kernel_rfl) (by decide) (ctxOK mixed tbl_ok rfl trivial trivial) (SumOK.of trivial) (by kernel_rfl) Zh9 Zku rfl (by decide) (by decide) rfl (by decide) rfl Z42 (fun x=>by kernel_rfl)
abbrev Zhm:Shape:={ sl:=sl_8,bl:=[],ts:=ts_6,pin:=0 }
abbrev Zl7:Shape:={ sl:=sl_2,bl:=[],ts:=ts_2,pin:=0 }
def Z4s (x:T50):Option (Int) :=
 some x.1.2.2.2.1
abbrev Zos:=Spec.shp Zhm Zl7 Z4s
def Zby:Ctx:={ tb:=mkTb T2.tbl,fx:=[],sum:=[],nt:=7,pin:=0,nr:=true,ys:=[] }
theorem Z4t:Sound Tryz.prog 229 (Zos) :=
 Sound.shp (C:=Zby) (fn:=Tryz.f229) (by kernel_rfl) (c:=bodyOf Tryz.f229) (by kernel_rfl) (by decide) (ctxOK mixed tbl_ok rfl trivial trivial) (SumOK.of trivial) (by kernel_rfl) Zhm Zl7 rfl (by decide) (by decide) rfl (by decide) rfl Z4s (fun x=>by kernel_rfl)
abbrev Zhh:Shape:={ sl:=sl_8,bl:=[],ts:=ts_6,pin:=0 }
abbrev Zl2:Shape:={ sl:=sl_2,bl:=[],ts:=ts_2,pin:=0 }
def Z4i (x:T50):Option (Int) :=
 some (IntKind.wrap .i64 ((((List.length x.2):Nat):Int)+(1:Int)))
abbrev Zon:=Spec.shp Zhh Zl2 Z4i
def Zbs:Ctx:={ tb:=mkTb T2.tbl,fx:=[],sum:=[],nt:=8,pin:=0,nr:=true,ys:=[] }
theorem Z4j:Sound Tryz.prog 230 (Zon) :=
 Sound.shp (C:=Zbs) (fn:=Tryz.f230) (by kernel_rfl) (c:=bodyOf Tryz.f230) (by kernel_rfl) (by decide) (ctxOK mixed tbl_ok rfl trivial trivial) (SumOK.of trivial) (by kernel_rfl) Zhh Zl2 rfl (by decide) (by decide) rfl (by decide) rfl Z4i (fun x=>by kernel_rfl)
abbrev Zhc:Shape:={ sl:=[(0,(.hole y39)),(1,(.hole (.slice y5))),(2,(.hole y5))],bl:=[],ts:=[y39,(.slice y5),y5],pin:=0 }
abbrev Zkx:Shape:={ sl:=sl_2,bl:=[],ts:=ts_2,pin:=0 }
def Z48 (x:(T47 × List (T7) × T7)):Option (Int) :=
 (Z46 (x.2.2.1,(0:Int),(13:Int))).bind fun r9 =>
 bif (Bool.not r9) then
 some (11:Int)
 else
 bif (x.2.2.1 == (7:Int)) then
 (Z4g ()).bind fun r10 =>
 bif (x.2.2.1 == (((0:Nat):Nat):Int)) then
 (Z4c (x.1,x.2.1)).bind fun r11 =>
 (Z46 (x.2.2.2.1,(0:Int),(IntKind.wrap .i64 (r11 - (1:Int))))).bind fun r12 =>
 bif (Bool.not r12) then
 some (3:Int)
 else
 (Z46 (x.2.2.2.2,(0:Int),(((List.length x.2.1):Nat):Int))).bind fun r13 =>
 bif (Bool.not r13) then
 some (3:Int)
 else
 some (0:Int)
 else
 bif (x.2.2.1 == ((((0:Nat)+(1:Nat)):Nat):Int)) then
 (Z44 (x.1,x.2.1)).bind fun r11 =>
 (Z46 (x.2.2.2.1,(0:Int),(IntKind.wrap .i64 (r11 - (1:Int))))).bind fun r12 =>
 bif (Bool.not r12) then
 some (3:Int)
 else
 (Z46 (x.2.2.2.2,(0:Int),(((List.length x.2.1):Nat):Int))).bind fun r13 =>
 bif (Bool.not r13) then
 some (3:Int)
 else
 some (0:Int)
 else
 bif (x.2.2.1 == (((((0:Nat)+(1:Nat))+(1:Nat)):Nat):Int)) then
 (Z44 (x.1,x.2.1)).bind fun r11 =>
 (Z46 (x.2.2.2.1,(0:Int),(IntKind.wrap .i64 (r11 - (1:Int))))).bind fun r12 =>
 bif (Bool.not r12) then
 some (3:Int)
 else
 (Z46 (x.2.2.2.2,(0:Int),(((List.length x.2.1):Nat):Int))).bind fun r13 =>
 bif (Bool.not r13) then
 some (3:Int)
 else
 some (0:Int)
 else
 bif (x.2.2.1 == ((((((0:Nat)+(1:Nat))+(1:Nat))+(1:Nat)):Nat):Int)) then
 (Z44 (x.1,x.2.1)).bind fun r11 =>
 (Z46 (x.2.2.2.1,(0:Int),(IntKind.wrap .i64 (r11 - (1:Int))))).bind fun r12 =>
 bif (Bool.not r12) then
 some (3:Int)
 else
 (Z46 (x.2.2.2.2,(0:Int),(((List.length x.2.1):Nat):Int))).bind fun r13 =>
 bif (Bool.not r13) then
 some (3:Int)
 else
 some (0:Int)
 else
 bif (x.2.2.1 == (((((((0:Nat)+(1:Nat))+(1:Nat))+(1:Nat))+(1:Nat)):Nat):Int)) then
 (Z4k (x.1,x.2.1)).bind fun r11 =>
 (Z46 (x.2.2.2.1,(0:Int),(IntKind.wrap .i64 (r11 - (1:Int))))).bind fun r12 =>
 bif (Bool.not r12) then
 some (3:Int)
 else
 (Z46 (x.2.2.2.2,(0:Int),(((List.length x.2.1):Nat):Int))).bind fun r13 =>
 bif (Bool.not r13) then
 some (3:Int)
 else
 some (0:Int)
 else
 bif (x.2.2.1 == ((((((((0:Nat)+(1:Nat))+(1:Nat))+(1:Nat))+(1:Nat))+(1:Nat)):Nat):Int)) then
 (Z4a (x.1,x.2.1)).bind fun r11 =>
 (Z46 (x.2.2.2.1,(0:Int),(IntKind.wrap .i64 (r11 - (1:Int))))).bind fun r12 =>
 bif (Bool.not r12) then
 some (3:Int)
 else
 (Z46 (x.2.2.2.2,(0:Int),(((List.length x.2.1):Nat):Int))).bind fun r13 =>
 bif (Bool.not r13) then
 some (3:Int)
 else
 some (0:Int)
 else
 bif (x.2.2.1 == (((((((((0:Nat)+(1:Nat))+(1:Nat))+(1:Nat))+(1:Nat))+(1:Nat))+(1:Nat)):Nat):Int)) then
 (Z4a (x.1,x.2.1)).bind fun r11 =>
 (Z46 (x.2.2.2.1,(0:Int),(IntKind.wrap .i64 (r11 - (1:Int))))).bind fun r12 =>
 bif (Bool.not r12) then
 some (3:Int)
 else
 (Z46 (x.2.2.2.2,(0:Int),(((List.length x.2.1):Nat):Int))).bind fun r13 =>
 bif (Bool.not r13) then
 some (3:Int)
 else
 some (0:Int)
 else
 bif (x.2.2.1 == ((((((((((0:Nat)+(1:Nat))+(1:Nat))+(1:Nat))+(1:Nat))+(1:Nat))+(1:Nat))+(1:Nat)):Nat):Int)) then
 (Z4e (x.1,x.2.1)).bind fun r11 =>
 (Z46 (x.2.2.2.1,(0:Int),(IntKind.wrap .i64 (r11 - (1:Int))))).bind fun r12 =>
 bif (Bool.not r12) then
 some (3:Int)
 else
 (Z46 (x.2.2.2.2,(0:Int),(((List.length x.2.1):Nat):Int))).bind fun r13 =>
 bif (Bool.not r13) then
 some (3:Int)
 else
 some (0:Int)
 else
 bif (x.2.2.1 == (((((((((((0:Nat)+(1:Nat))+(1:Nat))+(1:Nat))+(1:Nat))+(1:Nat))+(1:Nat))+(1:Nat))+(1:Nat)):Nat):Int)) then
 (Z4e (x.1,x.2.1)).bind fun r11 =>
 (Z46 (x.2.2.2.1,(0:Int),(IntKind.wrap .i64 (r11 - (1:Int))))).bind fun r12 =>
 bif (Bool.not r12) then
 some (3:Int)
 else
 (Z46 (x.2.2.2.2,(0:Int),(((List.length x.2.1):Nat):Int))).bind fun r13 =>
 bif (Bool.not r13) then
 some (3:Int)
 else
 some (0:Int)
 else
 bif (x.2.2.1 == ((((((((((((0:Nat)+(1:Nat))+(1:Nat))+(1:Nat))+(1:Nat))+(1:Nat))+(1:Nat))+(1:Nat))+(1:Nat))+(1:Nat)):Nat):Int)) then
 (Z42 (x.1,x.2.1)).bind fun r11 =>
 (Z46 (x.2.2.2.1,(0:Int),(IntKind.wrap .i64 (r11 - (1:Int))))).bind fun r12 =>
 bif (Bool.not r12) then
 some (3:Int)
 else
 (Z46 (x.2.2.2.2,(0:Int),(((List.length x.2.1):Nat):Int))).bind fun r13 =>
 bif (Bool.not r13) then
 some (3:Int)
 else
 some (0:Int)
 else
 bif (x.2.2.1 == (((((((((((((0:Nat)+(1:Nat))+(1:Nat))+(1:Nat))+(1:Nat))+(1:Nat))+(1:Nat))+(1:Nat))+(1:Nat))+(1:Nat))+(1:Nat)):Nat):Int)) then
 (Z4s (x.1,x.2.1)).bind fun r11 =>
 (Z46 (x.2.2.2.1,(0:Int),(IntKind.wrap .i64 (r11 - (1:Int))))).bind fun r12 =>
 bif (Bool.not r12) then
 some (3:Int)
 else
 (Z46 (x.2.2.2.2,(0:Int),(((List.length x.2.1):Nat):Int))).bind fun r13 =>
 bif (Bool.not r13) then
 some (3:Int)
 else
 some (0:Int)
 else
 bif (x.2.2.1 == ((((((((((((((0:Nat)+(1:Nat))+(1:Nat))+(1:Nat))+(1:Nat))+(1:Nat))+(1:Nat))+(1:Nat))+(1:Nat))+(1:Nat))+(1:Nat))+(1:Nat)):Nat):Int)) then
 (Z4s (x.1,x.2.1)).bind fun r11 =>
 (Z46 (x.2.2.2.1,(0:Int),(IntKind.wrap .i64 (r11 - (1:Int))))).bind fun r12 =>
 bif (Bool.not r12) then
 some (3:Int)
 else
 (Z46 (x.2.2.2.2,(0:Int),(((List.length x.2.1):Nat):Int))).bind fun r13 =>
 bif (Bool.not r13) then
 some (3:Int)
 else
 some (0:Int)
 else
 bif (x.2.2.1 == (((((((((((((((0:Nat)+(1:Nat))+(1:Nat))+(1:Nat))+(1:Nat))+(1:Nat))+(1:Nat))+(1:Nat))+(1:Nat))+(1:Nat))+(1:Nat))+(1:Nat))+(1:Nat)):Nat):Int)) then
 (Z4i (x.1,x.2.1)).bind fun r11 =>
 (Z46 (x.2.2.2.1,(0:Int),(IntKind.wrap .i64 (r11 - (1:Int))))).bind fun r12 =>
 bif (Bool.not r12) then
 some (3:Int)
 else
 (Z46 (x.2.2.2.2,(0:Int),(((List.length x.2.1):Nat):Int))).bind fun r13 =>
 bif (Bool.not r13) then
 some (3:Int)
 else
 some (0:Int)
 else
 bif (x.2.2.1 == ((((((((((((((((0:Nat)+(1:Nat))+(1:Nat))+(1:Nat))+(1:Nat))+(1:Nat))+(1:Nat))+(1:Nat))+(1:Nat))+(1:Nat))+(1:Nat))+(1:Nat))+(1:Nat))+(1:Nat)):Nat):Int)) then
 (Z4i (x.1,x.2.1)).bind fun r11 =>
 (Z46 (x.2.2.2.1,(0:Int),(IntKind.wrap .i64 (r11 - (1:Int))))).bind fun r12 =>
 bif (Bool.not r12) then
 some (3:Int)
 else
 (Z46 (x.2.2.2.2,(0:Int),(((List.length x.2.1):Nat):Int))).bind fun r13 =>
 bif (Bool.not r13) then
 some (3:Int)
 else
 some (0:Int)
 else
 none
 else
 (Z4g ()).bind fun r10 =>
 bif (x.2.2.1 == (((0:Nat):Nat):Int)) then
 (Z4c (x.1,x.2.1)).bind fun r11 =>
 (Z46 (x.2.2.2.1,(0:Int),(IntKind.wrap .i64 (r11 - (1:Int))))).bind fun r12 =>
 bif (Bool.not r12) then
 some (3:Int)
 else
 (Z46 (x.2.2.2.2,(0:Int),(0:Int))).bind fun r13 =>
 bif (Bool.not r13) then
 some (3:Int)
 else
 some (0:Int)
 else
 bif (x.2.2.1 == ((((0:Nat)+(1:Nat)):Nat):Int)) then
 (Z44 (x.1,x.2.1)).bind fun r11 =>
 (Z46 (x.2.2.2.1,(0:Int),(IntKind.wrap .i64 (r11 - (1:Int))))).bind fun r12 =>
 bif (Bool.not r12) then
 some (3:Int)
 else
 (Z46 (x.2.2.2.2,(0:Int),(0:Int))).bind fun r13 =>
 bif (Bool.not r13) then
 some (3:Int)
 else
 some (0:Int)
 else
 bif (x.2.2.1 == (((((0:Nat)+(1:Nat))+(1:Nat)):Nat):Int)) then
 (Z44 (x.1,x.2.1)).bind fun r11 =>
 (Z46 (x.2.2.2.1,(0:Int),(IntKind.wrap .i64 (r11 - (1:Int))))).bind fun r12 =>
 bif (Bool.not r12) then
 some (3:Int)
 else
 (Z46 (x.2.2.2.2,(0:Int),(0:Int))).bind fun r13 =>
 bif (Bool.not r13) then
 some (3:Int)
 else
 some (0:Int)
 else
 bif (x.2.2.1 == ((((((0:Nat)+(1:Nat))+(1:Nat))+(1:Nat)):Nat):Int)) then
 (Z44 (x.1,x.2.1)).bind fun r11 =>
 (Z46 (x.2.2.2.1,(0:Int),(IntKind.wrap .i64 (r11 - (1:Int))))).bind fun r12 =>
 bif (Bool.not r12) then
 some (3:Int)
 else
 (Z46 (x.2.2.2.2,(0:Int),(0:Int))).bind fun r13 =>
 bif (Bool.not r13) then
 some (3:Int)
 else
 some (0:Int)
 else
 bif (x.2.2.1 == (((((((0:Nat)+(1:Nat))+(1:Nat))+(1:Nat))+(1:Nat)):Nat):Int)) then
 (Z4k (x.1,x.2.1)).bind fun r11 =>
 (Z46 (x.2.2.2.1,(0:Int),(IntKind.wrap .i64 (r11 - (1:Int))))).bind fun r12 =>
 bif (Bool.not r12) then
 some (3:Int)
 else
 (Z46 (x.2.2.2.2,(0:Int),(0:Int))).bind fun r13 =>
 bif (Bool.not r13) then
 some (3:Int)
 else
 some (0:Int)
 else
 bif (x.2.2.1 == ((((((((0:Nat)+(1:Nat))+(1:Nat))+(1:Nat))+(1:Nat))+(1:Nat)):Nat):Int)) then
 (Z4a (x.1,x.2.1)).bind fun r11 =>
 (Z46 (x.2.2.2.1,(0:Int),(IntKind.wrap .i64 (r11 - (1:Int))))).bind fun r12 =>
 bif (Bool.not r12) then
 some (3:Int)
 else
 (Z46 (x.2.2.2.2,(0:Int),(0:Int))).bind fun r13 =>
 bif (Bool.not r13) then
 some (3:Int)
 else
 some (0:Int)
 else
 bif (x.2.2.1 == (((((((((0:Nat)+(1:Nat))+(1:Nat))+(1:Nat))+(1:Nat))+(1:Nat))+(1:Nat)):Nat):Int)) then
 (Z4a (x.1,x.2.1)).bind fun r11 =>
 (Z46 (x.2.2.2.1,(0:Int),(IntKind.wrap .i64 (r11 - (1:Int))))).bind fun r12 =>
 bif (Bool.not r12) then
 some (3:Int)
 else
 (Z46 (x.2.2.2.2,(0:Int),(0:Int))).bind fun r13 =>
 bif (Bool.not r13) then
 some (3:Int)
 else
 some (0:Int)
 else
 bif (x.2.2.1 == ((((((((((0:Nat)+(1:Nat))+(1:Nat))+(1:Nat))+(1:Nat))+(1:Nat))+(1:Nat))+(1:Nat)):Nat):Int)) then
 (Z4e (x.1,x.2.1)).bind fun r11 =>
 (Z46 (x.2.2.2.1,(0:Int),(IntKind.wrap .i64 (r11 - (1:Int))))).bind fun r12 =>
 bif (Bool.not r12) then
 some (3:Int)
 else
 (Z46 (x.2.2.2.2,(0:Int),(0:Int))).bind fun r13 =>
 bif (Bool.not r13) then
 some (3:Int)
 else
 some (0:Int)
 else
 bif (x.2.2.1 == (((((((((((0:Nat)+(1:Nat))+(1:Nat))+(1:Nat))+(1:Nat))+(1:Nat))+(1:Nat))+(1:Nat))+(1:Nat)):Nat):Int)) then
 (Z4e (x.1,x.2.1)).bind fun r11 =>
 (Z46 (x.2.2.2.1,(0:Int),(IntKind.wrap .i64 (r11 - (1:Int))))).bind fun r12 =>
 bif (Bool.not r12) then
 some (3:Int)
 else
 (Z46 (x.2.2.2.2,(0:Int),(0:Int))).bind fun r13 =>
 bif (Bool.not r13) then
 some (3:Int)
 else
 some (0:Int)
 else
 bif (x.2.2.1 == ((((((((((((0:Nat)+(1:Nat))+(1:Nat))+(1:Nat))+(1:Nat))+(1:Nat))+(1:Nat))+(1:Nat))+(1:Nat))+(1:Nat)):Nat):Int)) then
 (Z42 (x.1,x.2.1)).bind fun r11 =>
 (Z46 (x.2.2.2.1,(0:Int),(IntKind.wrap .i64 (r11 - (1:Int))))).bind fun r12 =>
 bif (Bool.not r12) then
 some (3:Int)
 else
 (Z46 (x.2.2.2.2,(0:Int),(0:Int))).bind fun r13 =>
 bif (Bool.not r13) then
 some (3:Int)
 else
 some (0:Int)
 else
 bif (x.2.2.1 == (((((((((((((0:Nat)+(1:Nat))+(1:Nat))+(1:Nat))+(1:Nat))+(1:Nat))+(1:Nat))+(1:Nat))+(1:Nat))+(1:Nat))+(1:Nat)):Nat):Int)) then
 (Z4s (x.1,x.2.1)).bind fun r11 =>
 (Z46 (x.2.2.2.1,(0:Int),(IntKind.wrap .i64 (r11 - (1:Int))))).bind fun r12 =>
 bif (Bool.not r12) then
 some (3:Int)
 else
 (Z46 (x.2.2.2.2,(0:Int),(0:Int))).bind fun r13 =>
 bif (Bool.not r13) then
 some (3:Int)
 else
 some (0:Int)
 else
 bif (x.2.2.1 == ((((((((((((((0:Nat)+(1:Nat))+(1:Nat))+(1:Nat))+(1:Nat))+(1:Nat))+(1:Nat))+(1:Nat))+(1:Nat))+(1:Nat))+(1:Nat))+(1:Nat)):Nat):Int)) then
 (Z4s (x.1,x.2.1)).bind fun r11 =>
 (Z46 (x.2.2.2.1,(0:Int),(IntKind.wrap .i64 (r11 - (1:Int))))).bind fun r12 =>
 bif (Bool.not r12) then
 some (3:Int)
 else
 (Z46 (x.2.2.2.2,(0:Int),(0:Int))).bind fun r13 =>
 bif (Bool.not r13) then
 some (3:Int)
 else
 some (0:Int)
 else
 bif (x.2.2.1 == (((((((((((((((0:Nat)+(1:Nat))+(1:Nat))+(1:Nat))+(1:Nat))+(1:Nat))+(1:Nat))+(1:Nat))+(1:Nat))+(1:Nat))+(1:Nat))+(1:Nat))+(1:Nat)):Nat):Int)) then
 (Z4i (x.1,x.2.1)).bind fun r11 =>
 (Z46 (x.2.2.2.1,(0:Int),(IntKind.wrap .i64 (r11 - (1:Int))))).bind fun r12 =>
 bif (Bool.not r12) then
 some (3:Int)
 else
 (Z46 (x.2.2.2.2,(0:Int),(0:Int))).bind fun r13 =>
 bif (Bool.not r13) then
 some (3:Int)
 else
 some (0:Int)
 else
 bif (x.2.2.1 == ((((((((((((((((0:Nat)+(1:Nat))+(1:Nat))+(1:Nat))+(1:Nat))+(1:Nat))+(1:Nat))+(1:Nat))+(1:Nat))+(1:Nat))+(1:Nat))+(1:Nat))+(1:Nat))+(1:Nat)):Nat):Int)) then
 (Z4i (x.1,x.2.1)).bind fun r11 =>
 (Z46 (x.2.2.2.1,(0:Int),(IntKind.wrap .i64 (r11 - (1:Int))))).bind fun r12 =>
 bif (Bool.not r12) then
 some (3:Int)
 else
 (Z46 (x.2.2.2.2,(0:Int),(0:Int))).bind fun r13 =>
 bif (Bool.not r13) then
 some (3:Int)
 else
 some (0:Int)
 else
 none
abbrev Zoi:=Spec.shp Zhc Zkx Z48
def Zbn:Ctx:={ tb:=mkTb T2.tbl,fx:=[(191,[],Zoh),(195,[],Zom),(223,[],Zok),(224,[],Zog),(225,[],Zoo),(226,[],Zoj),(227,[],Zol),(228,[],Zof),(229,[],Zos),(230,[],Zon)],sum:=[],nt:=37,pin:=0,nr:=true,ys:=[] }
theorem Z49:Sound Tryz.prog 155 (Zoi) :=
 Sound.shp (C:=Zbn) (fn:=Tryz.f155) (by kernel_rfl) (c:=bodyOf Tryz.f155) (by kernel_rfl) (by decide) (ctxOK mixed tbl_ok rfl ⟨Z47,Z4h,Z4d,Z45,Z4l,Z4b,Z4f,Z43,Z4t,Z4j,trivial⟩ trivial) (SumOK.of trivial) (by kernel_rfl) Zhc Zkx rfl (by decide) (by decide) rfl (by decide) rfl Z48 (fun x=>by kernel_rfl)
abbrev Zeu:Shape:={ sl:=sl_9,bl:=bl_0,ts:=ts_7,pin:=0 }
abbrev Zdz:List (ETag × Shape):=[(.ret,{ sl:=sl_10,bl:=[],ts:=ts_0,pin:=0 }),(.exit 2,{ sl:=sl_11,bl:=bl_0,ts:=ts_8,pin:=0 })]
def Z87 (x:T56):Option (T56 ⊕ (T4 ⊕ T54)) :=
 bif (decide (x.2.2.2.2.2.2.2.1 < x.2.2.2.2.2.2.1)) then
 bif (inb x.2.2.2.2.2.2.2.1 (List.length x.2.2.2.2.2.1)) then
 (Z48 (x.2.2.2.2.2.2.2.2,x.2.1,(getAt ((0:Int),(0:Int),(0:Int)) x.2.2.2.2.2.1 (toN x.2.2.2.2.2.2.2.1)))).bind fun r8 =>
 bif (r8 != (0:Int)) then
 some (.inr (.inl (x.1,x.2.2.2.2.2.2.2.1,r8)))
 else
 some (.inl (x.1,x.2.1,x.2.2.1,x.2.2.2.1,x.2.2.2.2.1,x.2.2.2.2.2.1,x.2.2.2.2.2.2.1,(IntKind.wrap .i64 (x.2.2.2.2.2.2.2.1+(1:Int))),x.2.2.2.2.2.2.2.2))
 else
 none
 else
 some (.inr (.inr (x.2.2.1,x.2.2.2.1,x.2.2.2.2.1,x.2.2.2.2.2.2.2.2)))
def Zbi:Ctx:={ tb:=mkTb T2.tbl,fx:=[(154,[],Zop),(155,[],Zoi)],sum:=[],nt:=51,pin:=0,nr:=true,ys:=[] }
theorem Z88:CSound Tryz.prog ⟨51,0,true⟩ (.loop (loopOf 11 Tryz.f92)) (Yah Zeu Zdz (loop Z87)) :=
 Y81 (C:=Zbi) (ctxOK mixed tbl_ok rfl ⟨Z4r,Z49,trivial⟩ trivial) (SumOK.of trivial) Zeu Zdz rfl rfl Z87 (fun x=>by kernel_rfl)
abbrev Zev:Shape:={ sl:=sl_11,bl:=bl_0,ts:=ts_8,pin:=0 }
abbrev Ze0:List (ETag × Shape):=[(.ret,{ sl:=sl_10,bl:=[],ts:=ts_0,pin:=0 }),(.exit 0,{ sl:=[],bl:=[],ts:=[],pin:=0 })]
def Z89 (x:T54):Option (T54 ⊕ (T4 ⊕ Unit)) :=
 bif (decide (x.2.2.1 < x.2.1)) then
 bif (inb x.2.2.1 (List.length x.1)) then
 bif (decide ((((List.length (getAt ([]:List T7) x.1 (toN x.2.2.1))):Nat):Int) > (24:Int))) then
 some (.inr (.inl (x.2.2.1,(Int.negSucc 0),(2:Int))))
 else
 (loop Z87 (x.2.2.1,(getAt ([]:List T7) x.1 (toN x.2.2.1)),x.1,x.2.1,x.2.2.1,(getAt ([]:List T7) x.1 (toN x.2.2.1)),(((List.length (getAt ([]:List T7) x.1 (toN x.2.2.1))):Nat):Int),(0:Int),x.2.2.2)).bind fun r7 =>
 match r7 with
 | .inl y8 =>
 some (.inr (.inl (y8.1,y8.2.1,y8.2.2)))
 | .inr y8 =>
 some (.inl (y8.1,y8.2.1,(IntKind.wrap .i64 (y8.2.2.1+(1:Int))),y8.2.2.2))
 else
 none
 else
 some (.inr (.inr ()))
def Zbj:Ctx:={ tb:=mkTb T2.tbl,fx:=[(154,[],Zop),(155,[],Zoi)],sum:=[(0,11,Yah Zeu Zdz (loop Z87))],nt:=51,pin:=0,nr:=true,ys:=[] }
theorem Z8a:CSound Tryz.prog ⟨51,0,true⟩ (.loop (loopOf 6 Tryz.f92)) (Yah Zev Ze0 (loop Z89)) :=
 Y81 (C:=Zbj) (ctxOK mixed tbl_ok rfl ⟨Z4r,Z49,trivial⟩ trivial) (SumOK.of ⟨(Yaj (d:=.loop (loopOf 11 Tryz.f92)) (by kernel_rfl) Z88),trivial⟩) Zev Ze0 rfl rfl Z89 (fun x=>by kernel_rfl)
abbrev Zh8:Shape:={ sl:=sl_6,bl:=[],ts:=[y39],pin:=0 }
abbrev Zkt:Shape:={ sl:=sl_0,bl:=[],ts:=ts_0,pin:=0 }
def Z40 (x:(T47)):Option T4 :=
 (Z4m x).bind fun r5 =>
 bif (r5.2 != (0:Int)) then
 some ((Int.negSucc 0),r5.1,r5.2)
 else
 (loop Z89 (x.2.2.2.2.2,(((List.length x.2.2.2.2.2):Nat):Int),(0:Int),x)).bind fun r6 =>
 match r6 with
 | .inl y7 =>
 some (y7.1,y7.2.1,y7.2.2)
 | .inr y7 =>
 some ((Int.negSucc 0),(Int.negSucc 0),(0:Int))
abbrev Zoe:=Spec.shp Zh8 Zkt Z40
def Zbh:Ctx:={ tb:=mkTb T2.tbl,fx:=[(154,[],Zop),(155,[],Zoi)],sum:=[(0,11,Yah Zeu Zdz (loop Z87)),(0,6,Yah Zev Ze0 (loop Z89))],nt:=51,pin:=0,nr:=true,ys:=[] }
theorem Z41:Sound Tryz.prog 92 (Zoe) :=
 Sound.shp (C:=Zbh) (fn:=Tryz.f92) (by kernel_rfl) (c:=bodyOf Tryz.f92) (by kernel_rfl) (by decide) (ctxOK mixed tbl_ok rfl ⟨Z4r,Z49,trivial⟩ trivial) (SumOK.of ⟨(Yaj (d:=.loop (loopOf 11 Tryz.f92)) (by kernel_rfl) Z88),(Yaj (d:=.loop (loopOf 6 Tryz.f92)) (by kernel_rfl) Z8a),trivial⟩) (by kernel_rfl) Zh8 Zkt rfl (by decide) (by decide) rfl (by decide) rfl Z40 (fun x=>by kernel_rfl)
abbrev Zh7:Shape:={ sl:=sl_6,bl:=[],ts:=[y39],pin:=0 }
abbrev Zks:Shape:={ sl:=sl_1,bl:=[],ts:=ts_1,pin:=0 }
def Z3y (x:(T47)):Option (Bool) :=
 (Z40 x).bind fun r4 =>
 some (r4.2.2 == (0:Int))
abbrev Zod:=Spec.shp Zh7 Zks Z3y
def Zbg:Ctx:={ tb:=mkTb T2.tbl,fx:=[(92,[],Zoe)],sum:=[],nt:=14,pin:=0,nr:=true,ys:=[] }
theorem Z3z:Sound Tryz.prog 38 (Zod) :=
 Sound.shp (C:=Zbg) (fn:=Tryz.f38) (by kernel_rfl) (c:=bodyOf Tryz.f38) (by kernel_rfl) (by decide) (ctxOK mixed tbl_ok rfl ⟨Z41,trivial⟩ trivial) (SumOK.of trivial) (by kernel_rfl) Zh7 Zks rfl (by decide) (by decide) rfl (by decide) rfl Z3y (fun x=>by kernel_rfl)
abbrev Zhp:Shape:={ sl:=sl_2,bl:=[],ts:=ts_2,pin:=0 }
abbrev Zla:Shape:={ sl:=sl_12,bl:=[],ts:=[y21,(.int .i64)],pin:=0 }
def Z4y (x:(Int)):Option (T16 × Int) :=
 bif (decide (x < (0:Int))) then
 some (((0:Int),(0:Int),([]:List Int),(0:Int)),(2:Int))
 else
 bif (decide (x > (8:Int))) then
 some (((0:Int),(0:Int),([]:List Int),(0:Int)),(2:Int))
 else
 bif (mkOK x x) then
 some ((x,(0:Int),(List.replicate (toN x) (0:Int)),(0:Int)),(0:Int))
 else
 none
abbrev Zou:=Spec.shp Zhp Zla Z4y
def Zc1:Ctx:={ tb:=mkTb T2.tbl,fx:=[],sum:=[],nt:=15,pin:=0,nr:=true,ys:=[] }
theorem Z4z:Sound Tryz.prog 93 (Zou) :=
 Sound.shp (C:=Zc1) (fn:=Tryz.f93) (by kernel_rfl) (c:=bodyOf Tryz.f93) (by kernel_rfl) (by decide) (ctxOK mixed tbl_ok rfl trivial trivial) (SumOK.of trivial) (by kernel_rfl) Zhp Zla rfl (by decide) (by decide) rfl (by decide) rfl Z4y (fun x=>by kernel_rfl)
abbrev Zfc:Shape:={ sl:=sl_2,bl:=[],ts:=ts_2,pin:=0 }
abbrev Zix:Shape:={ sl:=sl_13,bl:=[],ts:=[y40,(.int .i64)],pin:=0 }
def Z4 (x:(Int)):Option T46 :=
 bif (decide (x < (Int.negSucc 0))) then
 some (((0:Int),false,((0:Int),(0:Int),([]:List Int),(0:Int)),(0:Int),(0:Int),([]:List T7),([]:List T7)),(2:Int))
 else
 bif (decide (x > (3:Int))) then
 some (((0:Int),false,((0:Int),(0:Int),([]:List Int),(0:Int)),(0:Int),(0:Int),([]:List T7),([]:List T7)),(2:Int))
 else
 (Z4y (Max.max x (0:Int))).bind fun r6 =>
 some ((x,false,r6.1,(0:Int),(0:Int),([]:List T7),([]:List T7)),r6.2)
abbrev Zmi:=Spec.shp Zfc Zix Z4
def Z95:Ctx:={ tb:=mkTb T2.tbl,fx:=[(93,[],Zou)],sum:=[],nt:=23,pin:=0,nr:=true,ys:=[] }
theorem Z5:Sound Tryz.prog 39 (Zmi) :=
 Sound.shp (C:=Z95) (fn:=Tryz.f39) (by kernel_rfl) (c:=bodyOf Tryz.f39) (by kernel_rfl) (by decide) (ctxOK mixed tbl_ok rfl ⟨Z4z,trivial⟩ trivial) (SumOK.of trivial) (by kernel_rfl) Zfc Zix rfl (by decide) (by decide) rfl (by decide) rfl Z4 (fun x=>by kernel_rfl)
abbrev Zeh:Shape:={ sl:=[(2,(.ptr 0 [])),(5,(.ptr 1 [])),(26,(.hole y0)),(27,(.hole (.int .i64))),(28,(.hole (.int .i64)))],bl:=bl_1,ts:=[y0,(.int .i64),(.int .i64),(.int .i64),(.int .i64),(.int .i64),y4,y39,y4,y18,y41,y19,y26],pin:=0 }
abbrev Zdm:List (ETag × Shape):=[(.exit 0,{ sl:=[(2,(.ptr 0 [])),(5,(.ptr 1 []))],bl:=bl_1,ts:=ts_9,pin:=0 })]
def Z7g (x:(List Int × Int × Int × Int × Int × Int × (Int × Int) × T47 × (Int × Int) × List (T17) × List T43 × List (T18) × List T29)):Option ((List Int × Int × Int × Int × Int × Int × (Int × Int) × T47 × (Int × Int) × List (T17) × List T43 × List (T18) × List T29) ⊕ (Int × Int × Int × (Int × Int) × T47 × (Int × Int) × List (T17) × List T43 × List (T18) × List T29)) :=
 bif (decide (x.2.2.1 < x.2.1)) then
 bif (inb x.2.2.1 (List.length x.1)) then
 (Z4 (getAt (0:Int) x.1 (toN x.2.2.1))).bind fun r5 =>
 bif (fits ((List.length x.2.2.2.2.2.2.2.2.2.2.1)+(List.length (r5.1 :: ([]:List (Int × T41)))))) then
 some (.inl (x.1,x.2.1,(IntKind.wrap .i64 (x.2.2.1+(1:Int))),x.2.2.2.1,x.2.2.2.2.1,x.2.2.2.2.2.1,x.2.2.2.2.2.2.1,x.2.2.2.2.2.2.2.1,x.2.2.2.2.2.2.2.2.1,x.2.2.2.2.2.2.2.2.2.1,(x.2.2.2.2.2.2.2.2.2.2.1++(r5.1 :: ([]:List (Int × T41)))),x.2.2.2.2.2.2.2.2.2.2.2.1,x.2.2.2.2.2.2.2.2.2.2.2.2))
 else
 none
 else
 none
 else
 some (.inr (x.2.2.2.1,x.2.2.2.2.1,x.2.2.2.2.2.1,x.2.2.2.2.2.2.1,x.2.2.2.2.2.2.2.1,x.2.2.2.2.2.2.2.2.1,x.2.2.2.2.2.2.2.2.2.1,x.2.2.2.2.2.2.2.2.2.2.1,x.2.2.2.2.2.2.2.2.2.2.2.1,x.2.2.2.2.2.2.2.2.2.2.2.2))
def Z9r:Ctx:={ tb:=mkTb T2.tbl,fx:=[(38,[],Zod),(39,[],Zmi)],sum:=[],nt:=61,pin:=0,nr:=true,ys:=[] }
theorem Z7h:CSound Tryz.prog ⟨61,0,true⟩ (.loop (loopOf 6 Tryz.f14)) (Yah Zeh Zdm (loop Z7g)) :=
 Y81 (C:=Z9r) (ctxOK mixed tbl_ok rfl ⟨Z3z,Z5,trivial⟩ trivial) (SumOK.of trivial) Zeh Zdm rfl rfl Z7g (fun x=>by kernel_rfl)
abbrev Zgt:Shape:={ sl:=[(0,(.ptr 0 [])),(1,(.hole (.int .i64))),(2,(.hole (.int .i64))),(3,(.hole (.int .i64))),(4,(.hole (.int .i64))),(5,(.hole (.int .i64)))],bl:=bl_2,ts:=[(.int .i64),(.int .i64),(.int .i64),(.int .i64),(.int .i64),y39,y4,y18,y41,y19,y26,y27],pin:=0 }
abbrev Zke:Shape:={ sl:=sl_2,bl:=bl_2,ts:=ts_10,pin:=1 }
def Z35 (x:(Int × Int × Int × Int × Int × T47 × (Int × Int) × List (T17) × List T43 × List (T18) × List T29 × List (T20))):Option T58 :=
 bif (fits ((List.length x.2.2.2.2.2.2.2.2.2.2.2)+(List.length ((x.1,x.2.1,x.2.2.1,x.2.2.2.1,x.2.2.2.2.1) :: ([]:List T20))))) then
 some ((IntKind.wrap .i64 ((IntKind.wrap .i64 (x.2.2.2.2.2.2.1.1+(1:Int))) - (1:Int))),x.2.2.2.2.2.1,((IntKind.wrap .i64 (x.2.2.2.2.2.2.1.1+(1:Int))),x.2.2.2.2.2.2.1.2),x.2.2.2.2.2.2.2.1,x.2.2.2.2.2.2.2.2.1,x.2.2.2.2.2.2.2.2.2.1,x.2.2.2.2.2.2.2.2.2.2.1,(x.2.2.2.2.2.2.2.2.2.2.2++((x.1,x.2.1,x.2.2.1,x.2.2.2.1,x.2.2.2.2.1) :: ([]:List T20))))
 else
 none
abbrev Znz:=Spec.shp Zgt Zke Z35
def Zax:Ctx:={ tb:=mkTb T2.tbl,fx:=[],sum:=[],nt:=43,pin:=1,nr:=true,ys:=[] }
theorem Z36:Sound Tryz.prog 40 (Znz) :=
 Sound.shp (C:=Zax) (fn:=Tryz.f40) (by kernel_rfl) (c:=bodyOf Tryz.f40) (by kernel_rfl) (by decide) (ctxOK mixed tbl_ok rfl trivial trivial) (SumOK.of trivial) (by kernel_rfl) Zgt Zke rfl (by decide) (by decide) rfl (by decide) rfl Z35 (fun x=>by kernel_rfl)
abbrev Zgb:Shape:={ sl:=sl_14,bl:=bl_2,ts:=[(.int .i64),(.int .i64),y39,y4,y18,y41,y19,y26,y27],pin:=0 }
abbrev Zjw:Shape:={ sl:=[],bl:=bl_2,ts:=ts_11,pin:=1 }
def Z24 (x:(Int × Int × T47 × (Int × Int) × List (T17) × List T43 × List (T18) × List T29 × List (T20))):Option T57 :=
 bif (inb x.1 (List.length x.2.2.2.2.1)) then
 bif (inb (getAt ((0:Int),(0:Int),(0:Int),false) (List.set (List.set x.2.2.2.2.1 (toN x.1) ((getAt ((0:Int),(0:Int),(0:Int),false) x.2.2.2.2.1 (toN x.1)).1,x.2.1,(getAt ((0:Int),(0:Int),(0:Int),false) x.2.2.2.2.1 (toN x.1)).2.2)) (toN x.1) ((getAt ((0:Int),(0:Int),(0:Int),false) (List.set x.2.2.2.2.1 (toN x.1) ((getAt ((0:Int),(0:Int),(0:Int),false) x.2.2.2.2.1 (toN x.1)).1,x.2.1,(getAt ((0:Int),(0:Int),(0:Int),false) x.2.2.2.2.1 (toN x.1)).2.2)) (toN x.1)).1,(getAt ((0:Int),(0:Int),(0:Int),false) (List.set x.2.2.2.2.1 (toN x.1) ((getAt ((0:Int),(0:Int),(0:Int),false) x.2.2.2.2.1 (toN x.1)).1,x.2.1,(getAt ((0:Int),(0:Int),(0:Int),false) x.2.2.2.2.1 (toN x.1)).2.2)) (toN x.1)).2.1,(0:Int),(getAt ((0:Int),(0:Int),(0:Int),false) (List.set x.2.2.2.2.1 (toN x.1) ((getAt ((0:Int),(0:Int),(0:Int),false) x.2.2.2.2.1 (toN x.1)).1,x.2.1,(getAt ((0:Int),(0:Int),(0:Int),false) x.2.2.2.2.1 (toN x.1)).2.2)) (toN x.1)).2.2.2)) (toN x.1)).1 (List.length x.2.2.1.2.2.2.2.2)) then
 bif (x.2.1 == (((List.length (getAt ([]:List T7) x.2.2.1.2.2.2.2.2 (toN (getAt ((0:Int),(0:Int),(0:Int),false) (List.set (List.set x.2.2.2.2.1 (toN x.1) ((getAt ((0:Int),(0:Int),(0:Int),false) x.2.2.2.2.1 (toN x.1)).1,x.2.1,(getAt ((0:Int),(0:Int),(0:Int),false) x.2.2.2.2.1 (toN x.1)).2.2)) (toN x.1) ((getAt ((0:Int),(0:Int),(0:Int),false) (List.set x.2.2.2.2.1 (toN x.1) ((getAt ((0:Int),(0:Int),(0:Int),false) x.2.2.2.2.1 (toN x.1)).1,x.2.1,(getAt ((0:Int),(0:Int),(0:Int),false) x.2.2.2.2.1 (toN x.1)).2.2)) (toN x.1)).1,(getAt ((0:Int),(0:Int),(0:Int),false) (List.set x.2.2.2.2.1 (toN x.1) ((getAt ((0:Int),(0:Int),(0:Int),false) x.2.2.2.2.1 (toN x.1)).1,x.2.1,(getAt ((0:Int),(0:Int),(0:Int),false) x.2.2.2.2.1 (toN x.1)).2.2)) (toN x.1)).2.1,(0:Int),(getAt ((0:Int),(0:Int),(0:Int),false) (List.set x.2.2.2.2.1 (toN x.1) ((getAt ((0:Int),(0:Int),(0:Int),false) x.2.2.2.2.1 (toN x.1)).1,x.2.1,(getAt ((0:Int),(0:Int),(0:Int),false) x.2.2.2.2.1 (toN x.1)).2.2)) (toN x.1)).2.2.2)) (toN x.1)).1))):Nat):Int)) then
 some (x.2.2.1,x.2.2.2.1,(List.set (List.set (List.set x.2.2.2.2.1 (toN x.1) ((getAt ((0:Int),(0:Int),(0:Int),false) x.2.2.2.2.1 (toN x.1)).1,x.2.1,(getAt ((0:Int),(0:Int),(0:Int),false) x.2.2.2.2.1 (toN x.1)).2.2)) (toN x.1) ((getAt ((0:Int),(0:Int),(0:Int),false) (List.set x.2.2.2.2.1 (toN x.1) ((getAt ((0:Int),(0:Int),(0:Int),false) x.2.2.2.2.1 (toN x.1)).1,x.2.1,(getAt ((0:Int),(0:Int),(0:Int),false) x.2.2.2.2.1 (toN x.1)).2.2)) (toN x.1)).1,(getAt ((0:Int),(0:Int),(0:Int),false) (List.set x.2.2.2.2.1 (toN x.1) ((getAt ((0:Int),(0:Int),(0:Int),false) x.2.2.2.2.1 (toN x.1)).1,x.2.1,(getAt ((0:Int),(0:Int),(0:Int),false) x.2.2.2.2.1 (toN x.1)).2.2)) (toN x.1)).2.1,(0:Int),(getAt ((0:Int),(0:Int),(0:Int),false) (List.set x.2.2.2.2.1 (toN x.1) ((getAt ((0:Int),(0:Int),(0:Int),false) x.2.2.2.2.1 (toN x.1)).1,x.2.1,(getAt ((0:Int),(0:Int),(0:Int),false) x.2.2.2.2.1 (toN x.1)).2.2)) (toN x.1)).2.2.2)) (toN x.1) ((getAt ((0:Int),(0:Int),(0:Int),false) (List.set (List.set x.2.2.2.2.1 (toN x.1) ((getAt ((0:Int),(0:Int),(0:Int),false) x.2.2.2.2.1 (toN x.1)).1,x.2.1,(getAt ((0:Int),(0:Int),(0:Int),false) x.2.2.2.2.1 (toN x.1)).2.2)) (toN x.1) ((getAt ((0:Int),(0:Int),(0:Int),false) (List.set x.2.2.2.2.1 (toN x.1) ((getAt ((0:Int),(0:Int),(0:Int),false) x.2.2.2.2.1 (toN x.1)).1,x.2.1,(getAt ((0:Int),(0:Int),(0:Int),false) x.2.2.2.2.1 (toN x.1)).2.2)) (toN x.1)).1,(getAt ((0:Int),(0:Int),(0:Int),false) (List.set x.2.2.2.2.1 (toN x.1) ((getAt ((0:Int),(0:Int),(0:Int),false) x.2.2.2.2.1 (toN x.1)).1,x.2.1,(getAt ((0:Int),(0:Int),(0:Int),false) x.2.2.2.2.1 (toN x.1)).2.2)) (toN x.1)).2.1,(0:Int),(getAt ((0:Int),(0:Int),(0:Int),false) (List.set x.2.2.2.2.1 (toN x.1) ((getAt ((0:Int),(0:Int),(0:Int),false) x.2.2.2.2.1 (toN x.1)).1,x.2.1,(getAt ((0:Int),(0:Int),(0:Int),false) x.2.2.2.2.1 (toN x.1)).2.2)) (toN x.1)).2.2.2)) (toN x.1)).1,(getAt ((0:Int),(0:Int),(0:Int),false) (List.set (List.set x.2.2.2.2.1 (toN x.1) ((getAt ((0:Int),(0:Int),(0:Int),false) x.2.2.2.2.1 (toN x.1)).1,x.2.1,(getAt ((0:Int),(0:Int),(0:Int),false) x.2.2.2.2.1 (toN x.1)).2.2)) (toN x.1) ((getAt ((0:Int),(0:Int),(0:Int),false) (List.set x.2.2.2.2.1 (toN x.1) ((getAt ((0:Int),(0:Int),(0:Int),false) x.2.2.2.2.1 (toN x.1)).1,x.2.1,(getAt ((0:Int),(0:Int),(0:Int),false) x.2.2.2.2.1 (toN x.1)).2.2)) (toN x.1)).1,(getAt ((0:Int),(0:Int),(0:Int),false) (List.set x.2.2.2.2.1 (toN x.1) ((getAt ((0:Int),(0:Int),(0:Int),false) x.2.2.2.2.1 (toN x.1)).1,x.2.1,(getAt ((0:Int),(0:Int),(0:Int),false) x.2.2.2.2.1 (toN x.1)).2.2)) (toN x.1)).2.1,(0:Int),(getAt ((0:Int),(0:Int),(0:Int),false) (List.set x.2.2.2.2.1 (toN x.1) ((getAt ((0:Int),(0:Int),(0:Int),false) x.2.2.2.2.1 (toN x.1)).1,x.2.1,(getAt ((0:Int),(0:Int),(0:Int),false) x.2.2.2.2.1 (toN x.1)).2.2)) (toN x.1)).2.2.2)) (toN x.1)).2.1,(2:Int),(getAt ((0:Int),(0:Int),(0:Int),false) (List.set (List.set x.2.2.2.2.1 (toN x.1) ((getAt ((0:Int),(0:Int),(0:Int),false) x.2.2.2.2.1 (toN x.1)).1,x.2.1,(getAt ((0:Int),(0:Int),(0:Int),false) x.2.2.2.2.1 (toN x.1)).2.2)) (toN x.1) ((getAt ((0:Int),(0:Int),(0:Int),false) (List.set x.2.2.2.2.1 (toN x.1) ((getAt ((0:Int),(0:Int),(0:Int),false) x.2.2.2.2.1 (toN x.1)).1,x.2.1,(getAt ((0:Int),(0:Int),(0:Int),false) x.2.2.2.2.1 (toN x.1)).2.2)) (toN x.1)).1,(getAt ((0:Int),(0:Int),(0:Int),false) (List.set x.2.2.2.2.1 (toN x.1) ((getAt ((0:Int),(0:Int),(0:Int),false) x.2.2.2.2.1 (toN x.1)).1,x.2.1,(getAt ((0:Int),(0:Int),(0:Int),false) x.2.2.2.2.1 (toN x.1)).2.2)) (toN x.1)).2.1,(0:Int),(getAt ((0:Int),(0:Int),(0:Int),false) (List.set x.2.2.2.2.1 (toN x.1) ((getAt ((0:Int),(0:Int),(0:Int),false) x.2.2.2.2.1 (toN x.1)).1,x.2.1,(getAt ((0:Int),(0:Int),(0:Int),false) x.2.2.2.2.1 (toN x.1)).2.2)) (toN x.1)).2.2.2)) (toN x.1)).2.2.2)),x.2.2.2.2.2.1,x.2.2.2.2.2.2.1,x.2.2.2.2.2.2.2.1,x.2.2.2.2.2.2.2.2)
 else
 some (x.2.2.1,x.2.2.2.1,(List.set (List.set x.2.2.2.2.1 (toN x.1) ((getAt ((0:Int),(0:Int),(0:Int),false) x.2.2.2.2.1 (toN x.1)).1,x.2.1,(getAt ((0:Int),(0:Int),(0:Int),false) x.2.2.2.2.1 (toN x.1)).2.2)) (toN x.1) ((getAt ((0:Int),(0:Int),(0:Int),false) (List.set x.2.2.2.2.1 (toN x.1) ((getAt ((0:Int),(0:Int),(0:Int),false) x.2.2.2.2.1 (toN x.1)).1,x.2.1,(getAt ((0:Int),(0:Int),(0:Int),false) x.2.2.2.2.1 (toN x.1)).2.2)) (toN x.1)).1,(getAt ((0:Int),(0:Int),(0:Int),false) (List.set x.2.2.2.2.1 (toN x.1) ((getAt ((0:Int),(0:Int),(0:Int),false) x.2.2.2.2.1 (toN x.1)).1,x.2.1,(getAt ((0:Int),(0:Int),(0:Int),false) x.2.2.2.2.1 (toN x.1)).2.2)) (toN x.1)).2.1,(0:Int),(getAt ((0:Int),(0:Int),(0:Int),false) (List.set x.2.2.2.2.1 (toN x.1) ((getAt ((0:Int),(0:Int),(0:Int),false) x.2.2.2.2.1 (toN x.1)).1,x.2.1,(getAt ((0:Int),(0:Int),(0:Int),false) x.2.2.2.2.1 (toN x.1)).2.2)) (toN x.1)).2.2.2)),x.2.2.2.2.2.1,x.2.2.2.2.2.2.1,x.2.2.2.2.2.2.2.1,x.2.2.2.2.2.2.2.2)
 else
 none
 else
 none
abbrev Znh:=Spec.shp Zgb Zjw Z24
def Zad:Ctx:={ tb:=mkTb T2.tbl,fx:=[],sum:=[],nt:=39,pin:=1,nr:=true,ys:=[] }
theorem Z25:Sound Tryz.prog 41 (Znh) :=
 Sound.shp (C:=Zad) (fn:=Tryz.f41) (by kernel_rfl) (c:=bodyOf Tryz.f41) (by kernel_rfl) (by decide) (ctxOK mixed tbl_ok rfl trivial trivial) (SumOK.of trivial) (by kernel_rfl) Zgb Zjw rfl (by decide) (by decide) rfl (by decide) rfl Z24 (fun x=>by kernel_rfl)
abbrev Zgq:Shape:={ sl:=[(0,(.hole y12)),(1,(.ptr 0 []))],bl:=bl_3,ts:=[y12,(.int .i64)],pin:=0 }
abbrev Zkb:Shape:={ sl:=sl_1,bl:=bl_3,ts:=[.bool,(.int .i64)],pin:=1 }
def Z2w (x:(T17 × Int)):Option T0 :=
 some ((x.1.2.2.1 == x.2),x.2)
abbrev Znw:=Spec.shp Zgq Zkb Z2w
def Zat:Ctx:={ tb:=mkTb T2.tbl,fx:=[],sum:=[],nt:=8,pin:=1,nr:=true,ys:=[] }
theorem Z2x:Sound Tryz.prog 96 (Znw) :=
 Sound.shp (C:=Zat) (fn:=Tryz.f96) (by kernel_rfl) (c:=bodyOf Tryz.f96) (by kernel_rfl) (by decide) (ctxOK mixed tbl_ok rfl trivial trivial) (SumOK.of trivial) (by kernel_rfl) Zgq Zkb rfl (by decide) (by decide) rfl (by decide) rfl Z2w (fun x=>by kernel_rfl)
theorem Z2y:Sound Tryz.prog 96 (Spec.shpR Zgq Zkb Z2w) :=
 Sound.shpR (fun x y h=>by have h:=Option.some.inj h; subst h; rfl) Z2x
abbrev Zf1:Shape:={ sl:=[(0,(.sl 0)),(1,(.fn 96 .nil (.cons (.ptr 1 []) .nil))),(7,(.hole (.int .i64))),(8,(.hole (.int .i64)))],bl:=bl_4,ts:=[(.int .i64),(.int .i64),y18,(.int .i64)],pin:=2 }
abbrev Ze6:List (ETag × Shape):=[(.ret,{ sl:=sl_3,bl:=bl_4,ts:=[(.int .i64),y18,(.int .i64)],pin:=2 }),(.exit 0,{ sl:=[],bl:=bl_4,ts:=[y18,(.int .i64)],pin:=2 })]
def Z8l (x:(Int × Int × List (T17) × Int)):Option ((Int × Int × List (T17) × Int) ⊕ ((Int × List (T17) × Int) ⊕ (List (T17) × Int))) :=
 bif (decide (x.2.1 < x.1)) then
 bif (inb x.2.1 (List.length x.2.2.1)) then
 (Z2w ((getAt ((0:Int),(0:Int),(0:Int),false) x.2.2.1 (toN x.2.1)),x.2.2.2)).bind fun r12 =>
 bif r12.1 then
 some (.inr (.inl (x.2.1,x.2.2.1,x.2.2.2)))
 else
 some (.inl (x.1,(IntKind.wrap .i64 (x.2.1+(1:Int))),x.2.2.1,x.2.2.2))
 else
 none
 else
 some (.inr (.inr (x.2.2.1,x.2.2.2)))
def Zcv:Ctx:={ tb:=mkTb T2.tbl,fx:=[(96,[],Spec.shpR Zgq Zkb Z2w)],sum:=[],nt:=19,pin:=2,nr:=true,ys:=[] }
theorem Z8m:CSound Tryz.prog ⟨19,2,true⟩ (.loop (loopOf 3 Tryz.f156)) (Yah Zf1 Ze6 (loop Z8l)) :=
 Y81 (C:=Zcv) (ctxOK mixed tbl_ok rfl ⟨Z2y,trivial⟩ trivial) (SumOK.of trivial) Zf1 Ze6 rfl rfl Z8l (fun x=>by kernel_rfl)
abbrev Zie:Shape:={ sl:=[(0,(.sl 0)),(1,(.fn 96 .nil (.cons (.ptr 1 []) .nil)))],bl:=bl_4,ts:=[y18,(.int .i64)],pin:=0 }
abbrev Zlz:Shape:={ sl:=sl_2,bl:=bl_4,ts:=[(.int .i64),y18,(.int .i64)],pin:=2 }
def Z6c (x:(List (T17) × Int)):Option (Int × List (T17) × Int) :=
 (loop Z8l ((((List.length x.1):Nat):Int),(0:Int),x.1,x.2)).bind fun r11 =>
 match r11 with
 | .inl y12 =>
 some (y12.1,y12.2.1,y12.2.2)
 | .inr y12 =>
 some ((Int.negSucc 0),y12.1,y12.2)
abbrev Zpj:=Spec.shp Zie Zlz Z6c
def Zcu:Ctx:={ tb:=mkTb T2.tbl,fx:=[(96,[],Spec.shpR Zgq Zkb Z2w)],sum:=[(0,3,Yah Zf1 Ze6 (loop Z8l))],nt:=19,pin:=2,nr:=true,ys:=[] }
theorem Z6d:Sound Tryz.prog 156 (Zpj) :=
 Sound.shp (C:=Zcu) (fn:=Tryz.f156) (by kernel_rfl) (c:=bodyOf Tryz.f156) (by kernel_rfl) (by decide) (ctxOK mixed tbl_ok rfl ⟨Z2y,trivial⟩ trivial) (SumOK.of ⟨(Yaj (d:=.loop (loopOf 3 Tryz.f156)) (by kernel_rfl) Z8m),trivial⟩) (by kernel_rfl) Zie Zlz rfl (by decide) (by decide) rfl (by decide) rfl Z6c (fun x=>by kernel_rfl)
abbrev Zi5:Shape:={ sl:=[(0,(.sl 0)),(1,(.fn 96 .nil (.cons (.ptr 1 []) .nil)))],bl:=bl_4,ts:=[y18,(.int .i64)],pin:=0 }
abbrev Zlq:Shape:={ sl:=sl_1,bl:=bl_4,ts:=[.bool,y18,(.int .i64)],pin:=2 }
def Z5u (x:(List (T17) × Int)):Option (Bool × List (T17) × Int) :=
 (Z6c (x.1,x.2)).bind fun r10 =>
 some ((decide (r10.1 ≥ (0:Int))),r10.2.1,r10.2.2)
abbrev Zpa:=Spec.shp Zi5 Zlq Z5u
def Zci:Ctx:={ tb:=mkTb T2.tbl,fx:=[(156,[2000000,96],Zpj)],sum:=[],nt:=9,pin:=2,nr:=true,ys:=[] }
theorem Z5v:Sound Tryz.prog 95 (Zpa) :=
 Sound.shp (C:=Zci) (fn:=Tryz.f95) (by kernel_rfl) (c:=bodyOf Tryz.f95) (by kernel_rfl) (by decide) (ctxOK mixed tbl_ok rfl ⟨Z6d,trivial⟩ trivial) (SumOK.of trivial) (by kernel_rfl) Zi5 Zlq rfl (by decide) (by decide) rfl (by decide) rfl Z5u (fun x=>by kernel_rfl)
abbrev Zgp:Shape:={ sl:=[(0,(.hole (.int .i64))),(1,(.ptr 0 []))],bl:=bl_5,ts:=ts_10,pin:=0 }
abbrev Zka:Shape:={ sl:=sl_1,bl:=bl_5,ts:=[.bool,y39,y4,y18,y41,y19,y26,y27],pin:=2 }
def Z2v (x:T58):Option (Bool × T47 × (Int × Int) × List (T17) × List T43 × List (T18) × List T29 × List (T20)) :=
 (Z5u (x.2.2.2.1,x.1)).bind fun r9 =>
 some (r9.1,x.2.1,x.2.2.1,r9.2.1,x.2.2.2.2.1,x.2.2.2.2.2.1,x.2.2.2.2.2.2.1,x.2.2.2.2.2.2.2)
abbrev Znv:=Spec.shp Zgp Zka Z2v
def Zas:Ctx:={ tb:=mkTb T2.tbl,fx:=[(95,[2000000,96],Zpa)],sum:=[],nt:=11,pin:=2,nr:=true,ys:=[] }
theorem Z2z:Sound Tryz.prog 94 (Znv) :=
 Sound.shp (C:=Zas) (fn:=Tryz.f94) (by kernel_rfl) (c:=bodyOf Tryz.f94) (by kernel_rfl) (by decide) (ctxOK mixed tbl_ok rfl ⟨Z5v,trivial⟩ trivial) (SumOK.of trivial) (by kernel_rfl) Zgp Zka rfl (by decide) (by decide) rfl (by decide) rfl Z2v (fun x=>by kernel_rfl)
abbrev Zgo:Shape:={ sl:=sl_15,bl:=bl_2,ts:=ts_11,pin:=0 }
abbrev Zk9:Shape:={ sl:=[],bl:=bl_2,ts:=ts_11,pin:=1 }
def Z2u (x:T57):Option T57 :=
 bif (x.2.1.2 != (0:Int)) then
 some (x.1,x.2.1,x.2.2.1,x.2.2.2.1,x.2.2.2.2.1,x.2.2.2.2.2.1,x.2.2.2.2.2.2)
 else
 (Z2v ((0:Int),x.1,x.2.1,x.2.2.1,x.2.2.2.1,x.2.2.2.2.1,x.2.2.2.2.2.1,x.2.2.2.2.2.2)).bind fun r8 =>
 bif r8.1 then
 some (r8.2.1,r8.2.2.1,r8.2.2.2.1,r8.2.2.2.2.1,r8.2.2.2.2.2.1,r8.2.2.2.2.2.2.1,r8.2.2.2.2.2.2.2)
 else
 (Z2v ((1:Int),r8.2.1,r8.2.2.1,r8.2.2.2.1,r8.2.2.2.2.1,r8.2.2.2.2.2.1,r8.2.2.2.2.2.2.1,r8.2.2.2.2.2.2.2)).bind fun r9 =>
 bif r9.1 then
 some (r9.2.1,(r9.2.2.1.1,(2:Int)),r9.2.2.2.1,r9.2.2.2.2.1,r9.2.2.2.2.2.1,r9.2.2.2.2.2.2.1,r9.2.2.2.2.2.2.2)
 else
 some (r9.2.1,(r9.2.2.1.1,(1:Int)),r9.2.2.2.1,r9.2.2.2.2.1,r9.2.2.2.2.2.1,r9.2.2.2.2.2.2.1,r9.2.2.2.2.2.2.2)
abbrev Znu:=Spec.shp Zgo Zk9 Z2u
def Zar:Ctx:={ tb:=mkTb T2.tbl,fx:=[(94,[],Spec.thin (Znv))],sum:=[],nt:=26,pin:=1,nr:=true,ys:=[] }
theorem Z30:Sound Tryz.prog 42 (Znu) :=
 Sound.shp (C:=Zar) (fn:=Tryz.f42) (by kernel_rfl) (c:=bodyOf Tryz.f42) (by kernel_rfl) (by decide) (ctxOK mixed tbl_ok rfl ⟨Z2z.thin,trivial⟩ trivial) (SumOK.of trivial) (by kernel_rfl) Zgo Zk9 rfl (by decide) (by decide) rfl (by decide) rfl Z2u (fun x=>by kernel_rfl)
abbrev Zfv:Shape:={ sl:=sl_6,bl:=[],ts:=[y39],pin:=0 }
abbrev Zjg:Shape:={ sl:=[(0,(.hole y45)),(1,(.hole y27)),(2,(.hole (.int .i64)))],bl:=[],ts:=[y45,y27,(.int .i64)],pin:=0 }
def Z18 (x:(T47)):Option ((T47 × T61) × List (T20) × Int) :=
 (Z3y x).bind fun r3 =>
 bif (Bool.not r3) then
 some (((([]:List Int),(0:Int),(0:Int),(0:Int),([]:List T21),([]:List (List T7))),([]:List T17),([]:List (Int × T41)),([]:List T22),([]:List (Int × T14)),(0:Int),(0:Int)),([]:List T20),(1:Int))
 else
 bif (mkOK x.2.1 x.2.1) then
 bif (mkOK x.2.2.1 x.2.2.1) then
 (loop Z7g (x.1,(((List.length x.1):Nat):Int),(0:Int),(0:Int),(0:Int),(0:Int),((0:Int),(0:Int)),x,((0:Int),(0:Int)),(((0:Int),(0:Int),(0:Int),false) :: ([]:List T17)),([]:List (Int × T41)),(List.replicate (toN x.2.1) (false,([]:List T7))),(List.replicate (toN x.2.2.1) ((0:Int),(0:Int),([]:List T7))))).bind fun r4 =>
 (Z35 ((0:Int),(0:Int),(0:Int),(0:Int),(Int.negSucc 0),r4.2.2.2.2.1,r4.2.2.2.2.2.1,r4.2.2.2.2.2.2.1,r4.2.2.2.2.2.2.2.1,r4.2.2.2.2.2.2.2.2.1,r4.2.2.2.2.2.2.2.2.2,([]:List T20))).bind fun r5 =>
 (Z24 ((0:Int),(0:Int),r5.2.1,r5.2.2.1,r5.2.2.2.1,r5.2.2.2.2.1,r5.2.2.2.2.2.1,r5.2.2.2.2.2.2.1,r5.2.2.2.2.2.2.2)).bind fun r6 =>
 (Z2u (r6.1,r6.2.1,r6.2.2.1,r6.2.2.2.1,r6.2.2.2.2.1,r6.2.2.2.2.2.1,r6.2.2.2.2.2.2)).bind fun r7 =>
 some ((r7.1,r7.2.2.1,r7.2.2.2.1,r7.2.2.2.2.1,r7.2.2.2.2.2.1,r7.2.1),r7.2.2.2.2.2.2,(0:Int))
 else
 none
 else
 none
abbrev Zn1:=Spec.shp Zfv Zjg Z18
def Z9q:Ctx:={ tb:=mkTb T2.tbl,fx:=[(38,[],Zod),(39,[],Zmi),(40,[],Znz),(41,[],Znh),(42,[],Znu)],sum:=[(0,6,Yah Zeh Zdm (loop Z7g))],nt:=61,pin:=0,nr:=true,ys:=[] }
theorem Z19:Sound Tryz.prog 14 (Zn1) :=
 Sound.shp (C:=Z9q) (fn:=Tryz.f14) (by kernel_rfl) (c:=bodyOf Tryz.f14) (by kernel_rfl) (by decide) (ctxOK mixed tbl_ok rfl ⟨Z3z,Z5,Z36,Z25,Z30,trivial⟩ trivial) (SumOK.of ⟨(Yaj (d:=.loop (loopOf 6 Tryz.f14)) (by kernel_rfl) Z7h),trivial⟩) (by kernel_rfl) Zfv Zjg rfl (by decide) (by decide) rfl (by decide) rfl Z18 (fun x=>by kernel_rfl)
abbrev Zfy:Shape:={ sl:=[(0,(.hole y39)),(1,(.hole y12))],bl:=[],ts:=[y39,y12],pin:=0 }
abbrev Zjj:Shape:={ sl:=sl_1,bl:=[],ts:=ts_1,pin:=0 }
def Z1e (x:(T47 × T17)):Option (Bool) :=
 bif (decide (x.2.1 < (0:Int))) then
 some false
 else
 bif (decide (x.2.1 ≥ (((List.length x.1.2.2.2.2.2):Nat):Int))) then
 some false
 else
 bif (decide (x.2.2.1 < (0:Int))) then
 some false
 else
 bif (inb x.2.1 (List.length x.1.2.2.2.2.2)) then
 bif (decide (x.2.2.1 > (((List.length (getAt ([]:List T7) x.1.2.2.2.2.2 (toN x.2.1))):Nat):Int))) then
 some false
 else
 bif (decide (x.2.2.2.1 ≥ (0:Int))) then
 bif (decide (x.2.2.2.1 ≤ (2:Int))) then
 bif (inb x.2.1 (List.length x.1.2.2.2.2.2)) then
 some ((x.2.2.1 == (((List.length (getAt ([]:List T7) x.1.2.2.2.2.2 (toN x.2.1))):Nat):Int)) == (x.2.2.2.1 == (2:Int)))
 else
 none
 else
 some false
 else
 some false
 else
 none
abbrev Zn4:=Spec.shp Zfy Zjj Z1e
def Z9u:Ctx:={ tb:=mkTb T2.tbl,fx:=[],sum:=[],nt:=57,pin:=0,nr:=true,ys:=[] }
theorem Z1f:Sound Tryz.prog 108 (Zn4) :=
 Sound.shp (C:=Z9u) (fn:=Tryz.f108) (by kernel_rfl) (c:=bodyOf Tryz.f108) (by kernel_rfl) (by decide) (ctxOK mixed tbl_ok rfl trivial trivial) (SumOK.of trivial) (by kernel_rfl) Zfy Zjj rfl (by decide) (by decide) rfl (by decide) rfl Z1e (fun x=>by kernel_rfl)
abbrev Zg1:Shape:={ sl:=[(0,(.hole y12)),(1,(.ptr 0 []))],bl:=bl_0,ts:=[y12,y39],pin:=0 }
abbrev Zjm:Shape:={ sl:=sl_1,bl:=bl_0,ts:=[.bool,y39],pin:=1 }
def Z1j (x:(T17 × T47)):Option (Bool × T47) :=
 (Z1e (x.2,x.1)).bind fun r11 =>
 some ((Bool.not r11),x.2)
abbrev Zn7:=Spec.shp Zg1 Zjm Z1j
def Z9y:Ctx:={ tb:=mkTb T2.tbl,fx:=[(108,[],Zn4)],sum:=[],nt:=8,pin:=1,nr:=true,ys:=[] }
theorem Z1k:Sound Tryz.prog 107 (Zn7) :=
 Sound.shp (C:=Z9y) (fn:=Tryz.f107) (by kernel_rfl) (c:=bodyOf Tryz.f107) (by kernel_rfl) (by decide) (ctxOK mixed tbl_ok rfl ⟨Z1f,trivial⟩ trivial) (SumOK.of trivial) (by kernel_rfl) Zg1 Zjm rfl (by decide) (by decide) rfl (by decide) rfl Z1j (fun x=>by kernel_rfl)
abbrev Zf0:Shape:={ sl:=[(0,(.hole y18)),(1,(.fn 107 .nil (.cons (.ptr 0 []) .nil))),(7,(.hole (.int .i64))),(8,(.hole (.int .i64)))],bl:=bl_0,ts:=[y18,(.int .i64),(.int .i64),y39],pin:=1 }
abbrev Ze5:List (ETag × Shape):=[(.ret,{ sl:=sl_3,bl:=bl_0,ts:=[(.int .i64),y39],pin:=1 }),(.exit 0,{ sl:=[],bl:=bl_0,ts:=[y39],pin:=1 })]
def Z8j (x:(List (T17) × Int × Int × T47)):Option ((List (T17) × Int × Int × T47) ⊕ ((Int × T47) ⊕ (T47))) :=
 bif (decide (x.2.2.1 < x.2.1)) then
 bif (inb x.2.2.1 (List.length x.1)) then
 (Z1j ((getAt ((0:Int),(0:Int),(0:Int),false) x.1 (toN x.2.2.1)),x.2.2.2)).bind fun r10 =>
 bif r10.1 then
 some (.inr (.inl (x.2.2.1,r10.2)))
 else
 some (.inl (x.1,x.2.1,(IntKind.wrap .i64 (x.2.2.1+(1:Int))),r10.2))
 else
 none
 else
 some (.inr (.inr x.2.2.2))
def Zct:Ctx:={ tb:=mkTb T2.tbl,fx:=[(107,[],Zn7)],sum:=[],nt:=19,pin:=1,nr:=true,ys:=[] }
theorem Z8k:CSound Tryz.prog ⟨19,1,true⟩ (.loop (loopOf 3 Tryz.f156)) (Yah Zf0 Ze5 (loop Z8j)) :=
 Y81 (C:=Zct) (ctxOK mixed tbl_ok rfl ⟨Z1k,trivial⟩ trivial) (SumOK.of trivial) Zf0 Ze5 rfl rfl Z8j (fun x=>by kernel_rfl)
abbrev Zid:Shape:={ sl:=[(0,(.hole y18)),(1,(.fn 107 .nil (.cons (.ptr 0 []) .nil)))],bl:=bl_0,ts:=[y18,y39],pin:=0 }
abbrev Zly:Shape:={ sl:=sl_2,bl:=bl_0,ts:=[(.int .i64),y39],pin:=1 }
def Z6a (x:(List (T17) × T47)):Option (Int × T47) :=
 (loop Z8j (x.1,(((List.length x.1):Nat):Int),(0:Int),x.2)).bind fun r9 =>
 match r9 with
 | .inl y10 =>
 some (y10.1,y10.2)
 | .inr y10 =>
 some ((Int.negSucc 0),y10)
abbrev Zpi:=Spec.shp Zid Zly Z6a
def Zcs:Ctx:={ tb:=mkTb T2.tbl,fx:=[(107,[],Zn7)],sum:=[(0,3,Yah Zf0 Ze5 (loop Z8j))],nt:=19,pin:=1,nr:=true,ys:=[] }
theorem Z6b:Sound Tryz.prog 156 (Zpi) :=
 Sound.shp (C:=Zcs) (fn:=Tryz.f156) (by kernel_rfl) (c:=bodyOf Tryz.f156) (by kernel_rfl) (by decide) (ctxOK mixed tbl_ok rfl ⟨Z1k,trivial⟩ trivial) (SumOK.of ⟨(Yaj (d:=.loop (loopOf 3 Tryz.f156)) (by kernel_rfl) Z8k),trivial⟩) (by kernel_rfl) Zid Zly rfl (by decide) (by decide) rfl (by decide) rfl Z6a (fun x=>by kernel_rfl)
abbrev Zi4:Shape:={ sl:=[(0,(.hole y18)),(1,(.fn 107 .nil (.cons (.ptr 0 []) .nil)))],bl:=bl_0,ts:=[y18,y39],pin:=0 }
abbrev Zlp:Shape:={ sl:=sl_1,bl:=bl_0,ts:=[.bool,y39],pin:=1 }
def Z5s (x:(List (T17) × T47)):Option (Bool × T47) :=
 (Z6a (x.1,x.2)).bind fun r8 =>
 some ((decide (r8.1 ≥ (0:Int))),r8.2)
abbrev Zp9:=Spec.shp Zi4 Zlp Z5s
def Zch:Ctx:={ tb:=mkTb T2.tbl,fx:=[(156,[107],Zpi)],sum:=[],nt:=9,pin:=1,nr:=true,ys:=[] }
theorem Z5t:Sound Tryz.prog 95 (Zp9) :=
 Sound.shp (C:=Zch) (fn:=Tryz.f95) (by kernel_rfl) (c:=bodyOf Tryz.f95) (by kernel_rfl) (by decide) (ctxOK mixed tbl_ok rfl ⟨Z6b,trivial⟩ trivial) (SumOK.of trivial) (by kernel_rfl) Zi4 Zlp rfl (by decide) (by decide) rfl (by decide) rfl Z5s (fun x=>by kernel_rfl)
abbrev Zhs:Shape:={ sl:=[(0,(.hole y21))],bl:=[],ts:=[y21],pin:=0 }
abbrev Zld:Shape:={ sl:=sl_1,bl:=[],ts:=ts_1,pin:=0 }
def Z54 (x:(T16)):Option (Bool) :=
 bif (decide (x.1 ≥ (0:Int))) then
 bif (decide (x.1 ≤ (8:Int))) then
 bif ((((List.length x.2.2.1):Nat):Int) == x.1) then
 bif (decide (x.2.2.2 ≥ (0:Int))) then
 bif (decide (x.2.2.2 ≤ x.1)) then
 bif (decide (x.2.1 ≥ (0:Int))) then
 some (decide (x.2.1 < (Max.max (1:Int) x.1)))
 else
 some false
 else
 some false
 else
 some false
 else
 some false
 else
 some false
 else
 some false
abbrev Zox:=Spec.shp Zhs Zld Z54
def Zc4:Ctx:={ tb:=mkTb T2.tbl,fx:=[],sum:=[],nt:=46,pin:=0,nr:=true,ys:=[] }
theorem Z55:Sound Tryz.prog 196 (Zox) :=
 Sound.shp (C:=Zc4) (fn:=Tryz.f196) (by kernel_rfl) (c:=bodyOf Tryz.f196) (by kernel_rfl) (by decide) (ctxOK mixed tbl_ok rfl trivial trivial) (SumOK.of trivial) (by kernel_rfl) Zhs Zld rfl (by decide) (by decide) rfl (by decide) rfl Z54 (fun x=>by kernel_rfl)
abbrev Zht:Shape:={ sl:=[(0,(.hole (.one y21)))],bl:=[],ts:=[(.one y21)],pin:=0 }
abbrev Zle:Shape:={ sl:=[(0,(.fn 231 .nil (.cons (.ptr 0 []) .nil)))],bl:=[.var (.hole (.one y21))],ts:=[(.one y21)],pin:=0 }
def Z56 (x:(T16)):Option (T16) :=
 some x
abbrev Zoy:=Spec.shp Zht Zle Z56
def Zc5:Ctx:={ tb:=mkTb T2.tbl,fx:=[],sum:=[],nt:=4,pin:=0,nr:=true,ys:=[] }
theorem Z59:Sound Tryz.prog 197 (Zoy) :=
 Sound.shp (C:=Zc5) (fn:=Tryz.f197) (by kernel_rfl) (c:=bodyOf Tryz.f197) (by kernel_rfl) (by decide) (ctxOK mixed tbl_ok rfl trivial trivial) (SumOK.of trivial) (by kernel_rfl) Zht Zle rfl (by decide) (by decide) rfl (by decide) rfl Z56 (fun x=>by kernel_rfl)
abbrev Zho:Shape:={ sl:=[(4,(.ptr 0 [])),(12,(.hole (.int .i64)))],bl:=[.var (.sl 1),.row (.int .i64)],ts:=[(.int .i64),y0],pin:=0 }
abbrev Zl9:Shape:={ sl:=sl_2,bl:=[.var (.sl 1),.row (.int .i64)],ts:=[(.int .i64),y0],pin:=1 }
def Z4w (x:T3):Option T3 :=
 bif (fits ((List.length x.2)+(List.length (x.1 :: ([]:List Int))))) then
 some ((0:Int),(x.2++(x.1 :: ([]:List Int))))
 else
 none
def Zc0:Ctx:={ tb:=mkTb T2.tbl,fx:=[],sum:=[],nt:=18,pin:=1,nr:=false,ys:=[] }
theorem Z4x:YSound Tryz.prog 10485766 [4] (Spec.rnd [4,12] Zho Zl9 Z4w) :=
 YSound.rnd (C:=Zc0) (rt:=⟨rfPs (rfOf 6 Tryz.f160),rfAs (rfOf 6 Tryz.f160),rfBody (rfOf 6 Tryz.f160),18⟩) (by kernel_rfl) (ctxOK mixed tbl_ok rfl trivial) (SumOK.of trivial) (SumOK.of trivial) rfl rfl [4] Zho Zl9 rfl (by decide) (by decide) rfl (fun y=>⟨_,rfl⟩) (of_decide_eq_true (by kernel_rfl)) (of_decide_eq_true (by kernel_rfl)) Z4w (fun x=>by kernel_rfl)
abbrev Zhv:Shape:={ sl:=[(0,(.hole (.one y21))),(1,(.hole (.int .i64)))],bl:=[],ts:=[(.one y21),(.int .i64)],pin:=0 }
abbrev Zlg:Shape:={ sl:=sl_2,bl:=[],ts:=ts_2,pin:=0 }
def Z5a (x:(T16 × Int)):Option (Int) :=
 bif (x.1.1 != (0:Int)) then
 some (Int.tmod (IntKind.wrap .i64 (x.1.2.1+x.2)) x.1.1)
 else
 none
abbrev Zp0:=Spec.shp Zhv Zlg Z5a
def Zc8:Ctx:={ tb:=mkTb T2.tbl,fx:=[],sum:=[],nt:=14,pin:=0,nr:=true,ys:=[] }
theorem Z5d:Sound Tryz.prog 232 (Zp0) :=
 Sound.shp (C:=Zc8) (fn:=Tryz.f232) (by kernel_rfl) (c:=bodyOf Tryz.f232) (by kernel_rfl) (by decide) (ctxOK mixed tbl_ok rfl trivial trivial) (SumOK.of trivial) (by kernel_rfl) Zhv Zlg rfl (by decide) (by decide) rfl (by decide) rfl Z5a (fun x=>by kernel_rfl)
abbrev Zex:Shape:={ sl:=[(0,(.yl 0)),(1,(.ptr 1 [])),(6,(.hole (.int .i64))),(7,(.hole (.int .i64)))],bl:=bl_6,ts:=[(.int .i64),(.int .i64),(.one y21),y0],pin:=3 }
abbrev Ze2:List (ETag × Shape):=[(.ret,{ sl:=[],bl:=bl_7,ts:=[(.int .i64),(.one y21),y0],pin:=3 }),(.exit 0,{ sl:=[],bl:=bl_6,ts:=[(.one y21),y0],pin:=3 })]
def Z8d (x:(Int × Int × T16 × List Int)):Option ((Int × Int × T16 × List Int) ⊕ (T33 ⊕ (T16 × List Int))) :=
 bif (decide (x.2.1 < x.1)) then
 (Z5a (x.2.2.1,x.2.1)).bind fun r15 =>
 bif (inb r15 (List.length x.2.2.1.2.2.1)) then
 (Z4w ((getAt (0:Int) x.2.2.1.2.2.1 (toN r15)),x.2.2.2)).bind fun r16 =>
 bif (eqI r16.1 (0:Int)) then
 some (.inl (x.1,(IntKind.wrap .i64 (x.2.1+(1:Int))),x.2.2.1,r16.2))
 else
 some (.inr (.inl (r16.1,x.2.2.1,r16.2)))
 else
 none
 else
 some (.inr (.inr (x.2.2.1,x.2.2.2)))
def Zc7:Ctx:={ tb:=mkTb T2.tbl,fx:=[(232,[],Zp0)],sum:=[],nt:=22,pin:=3,nr:=true,ys:=[(10485766,[4],Spec.rnd [4,12] { sl:=[(4,(.ptr 0 [])),(12,(.hole (.int .i64)))],bl:=[.var (.sl 1),.row (.int .i64)],ts:=[(.int .i64),(.slice (.int .i64))],pin:=0 } { sl:=[(0,(.hole (.int .i64)))],bl:=[.var (.sl 1),.row (.int .i64)],ts:=[(.int .i64),(.slice (.int .i64))],pin:=1 } Z4w)] }
theorem Z8e:CSound Tryz.prog ⟨22,3,true⟩ (.loop (loopOf 2 Tryz.f231)) (Yah Zex Ze2 (loop Z8d)) :=
 Y81 (C:=Zc7) (ctxOK mixed tbl_ok rfl ⟨Z5d,trivial⟩ ⟨Z4x,trivial⟩) (SumOK.of trivial) Zex Ze2 rfl rfl Z8d (fun x=>by kernel_rfl)
abbrev Zhu:Shape:={ sl:=[(0,(.yl 0)),(1,(.ptr 1 []))],bl:=bl_6,ts:=[(.one y21),y0],pin:=0 }
abbrev Zlf:Shape:={ sl:=[],bl:=bl_7,ts:=[(.int .i64),(.one y21),y0],pin:=3 }
def Z57 (x:(T16 × List Int)):Option T33 :=
 (loop Z8d (x.1.2.2.2,(0:Int),x.1,x.2)).bind fun r14 =>
 match r14 with
 | .inl y15 =>
 some (y15.1,y15.2.1,y15.2.2)
 | .inr y15 =>
 some ((0:Int),y15.1,y15.2)
abbrev Zoz:=Spec.shp Zhu Zlf Z57
def Zc6:Ctx:={ tb:=mkTb T2.tbl,fx:=[(232,[],Zp0)],sum:=[(0,2,Yah Zex Ze2 (loop Z8d))],nt:=22,pin:=3,nr:=true,ys:=[(10485766,[4],Spec.rnd [4,12] Zho Zl9 Z4w)] }
theorem Z58:Sound Tryz.prog 231 (Zoz) :=
 Sound.shp (C:=Zc6) (fn:=Tryz.f231) (by kernel_rfl) (c:=bodyOf Tryz.f231) (by kernel_rfl) (by decide) (ctxOK mixed tbl_ok rfl ⟨Z5d,trivial⟩ ⟨Z4x,trivial⟩) (SumOK.of ⟨(Yaj (d:=.loop (loopOf 2 Tryz.f231)) (by kernel_rfl) Z8e),trivial⟩) (by kernel_rfl) Zhu Zlf rfl (by decide) (by decide) rfl (by decide) rfl Z57 (fun x=>by kernel_rfl)
abbrev Zhn:Shape:={ sl:=[(0,(.hole y21))],bl:=[],ts:=[y21],pin:=0 }
abbrev Zl8:Shape:={ sl:=sl_16,bl:=[],ts:=[y0,(.int .i64)],pin:=0 }
def Z4u (x:(T16)):Option T2 :=
 (Z54 x).bind fun r11 =>
 bif (Bool.not r11) then
 some (([]:List Int),(1:Int))
 else
 (Z56 x).bind fun r12 =>
 (Z57 (r12,([]:List Int))).bind fun r13 =>
 bif (eqI r13.1 (0:Int)) then
 some (r13.2.2,(0:Int))
 else
 bif (eqI r13.1 (1:Int)) then
 some (([]:List Int),(0:Int))
 else
 none
abbrev Zot:=Spec.shp Zhn Zl8 Z4u
def Zbz:Ctx:={ tb:=mkTb T2.tbl,fx:=[(196,[],Zox),(197,[],Zoy)],sum:=[(3,6,Yb4 (rfF (rfOf 6 Tryz.f160)) 10485766 [4] [] [(231,[11485766],Zoz)])],nt:=18,pin:=0,nr:=true,ys:=[] }
theorem Z4v:Sound Tryz.prog 160 (Zot) :=
 Sound.shp (C:=Zbz) (fn:=Tryz.f160) (by kernel_rfl) (c:=bodyOf Tryz.f160) (by kernel_rfl) (by decide) (ctxOK mixed tbl_ok rfl ⟨Z55,Z59,trivial⟩ trivial) (SumOK.of ⟨(Yaj (d:=rfOf 6 Tryz.f160) (by kernel_rfl) (Yb6 (c:=rfOf 6 Tryz.f160) rfl (by kernel_rfl) Z58 [4] [])),trivial⟩) (by kernel_rfl) Zhn Zl8 rfl (by decide) (by decide) rfl (by decide) rfl Z4u (fun x=>by kernel_rfl)
abbrev Zit:Shape:={ sl:=sl_17,bl:=[],ts:=[y5],pin:=0 }
abbrev Zme:Shape:={ sl:=sl_1,bl:=[],ts:=ts_1,pin:=0 }
def Z78 (x:(T7)):Option (Bool) :=
 bif (decide (x.1 ≥ (0:Int))) then
 bif (decide (x.2.1 ≥ (0:Int))) then
 some (decide (x.2.2 ≥ (0:Int)))
 else
 some false
 else
 some false
abbrev Zpy:=Spec.shp Zit Zme Z78
def Zdh:Ctx:={ tb:=mkTb T2.tbl,fx:=[],sum:=[],nt:=16,pin:=0,nr:=true,ys:=[] }
theorem Z79:Sound Tryz.prog 199 (Zpy) :=
 Sound.shp (C:=Zdh) (fn:=Tryz.f199) (by kernel_rfl) (c:=bodyOf Tryz.f199) (by kernel_rfl) (by decide) (ctxOK mixed tbl_ok rfl trivial trivial) (SumOK.of trivial) (by kernel_rfl) Zit Zme rfl (by decide) (by decide) rfl (by decide) rfl Z78 (fun x=>by kernel_rfl)
abbrev Zis:Shape:={ sl:=sl_17,bl:=[],ts:=[y5],pin:=0 }
abbrev Zmd:Shape:={ sl:=sl_1,bl:=[],ts:=ts_1,pin:=0 }
def Z75 (x:(T7)):Option (Bool) :=
 (Z78 x).bind fun r16 =>
 some (Bool.not r16)
abbrev Zpx:=Spec.shp Zis Zmd Z75
def Zdg:Ctx:={ tb:=mkTb T2.tbl,fx:=[(199,[],Zpy)],sum:=[],nt:=6,pin:=0,nr:=true,ys:=[] }
theorem Z76:Sound Tryz.prog 198 (Zpx) :=
 Sound.shp (C:=Zdg) (fn:=Tryz.f198) (by kernel_rfl) (c:=bodyOf Tryz.f198) (by kernel_rfl) (by decide) (ctxOK mixed tbl_ok rfl ⟨Z79,trivial⟩ trivial) (SumOK.of trivial) (by kernel_rfl) Zis Zmd rfl (by decide) (by decide) rfl (by decide) rfl Z75 (fun x=>by kernel_rfl)
abbrev Zf6:Shape:={ sl:=[(0,(.hole (.slice y5))),(1,(.fn 198 .nil .nil)),(7,(.hole (.int .i64))),(8,(.hole (.int .i64)))],bl:=[],ts:=[(.slice y5),(.int .i64),(.int .i64)],pin:=0 }
abbrev Zeb:List (ETag × Shape):=[(.ret,{ sl:=sl_3,bl:=[],ts:=ts_2,pin:=0 }),(.exit 0,{ sl:=[],bl:=[],ts:=[],pin:=0 })]
def Z8v (x:(List (T7) × Int × Int)):Option ((List (T7) × Int × Int) ⊕ ((Int) ⊕ Unit)) :=
 bif (decide (x.2.2 < x.2.1)) then
 bif (inb x.2.2 (List.length x.1)) then
 (Z75 (getAt ((0:Int),(0:Int),(0:Int)) x.1 (toN x.2.2))).bind fun r15 =>
 bif r15 then
 some (.inr (.inl x.2.2))
 else
 some (.inl (x.1,x.2.1,(IntKind.wrap .i64 (x.2.2+(1:Int)))))
 else
 none
 else
 some (.inr (.inr ()))
def Zd5:Ctx:={ tb:=mkTb T2.tbl,fx:=[(198,[],Zpx)],sum:=[],nt:=19,pin:=0,nr:=true,ys:=[] }
theorem Z8w:CSound Tryz.prog ⟨19,0,true⟩ (.loop (loopOf 3 Tryz.f163)) (Yah Zf6 Zeb (loop Z8v)) :=
 Y81 (C:=Zd5) (ctxOK mixed tbl_ok rfl ⟨Z76,trivial⟩ trivial) (SumOK.of trivial) Zf6 Zeb rfl rfl Z8v (fun x=>by kernel_rfl)
abbrev Zij:Shape:={ sl:=[(0,(.hole (.slice y5))),(1,(.fn 198 .nil .nil))],bl:=[],ts:=[(.slice y5)],pin:=0 }
abbrev Zm4:Shape:={ sl:=sl_2,bl:=[],ts:=ts_2,pin:=0 }
def Z6m (x:(List (T7))):Option (Int) :=
 (loop Z8v (x,(((List.length x):Nat):Int),(0:Int))).bind fun r14 =>
 match r14 with
 | .inl y15 =>
 some y15
 | .inr y15 =>
 some (Int.negSucc 0)
abbrev Zpo:=Spec.shp Zij Zm4 Z6m
def Zd4:Ctx:={ tb:=mkTb T2.tbl,fx:=[(198,[],Zpx)],sum:=[(0,3,Yah Zf6 Zeb (loop Z8v))],nt:=19,pin:=0,nr:=true,ys:=[] }
theorem Z6n:Sound Tryz.prog 163 (Zpo) :=
 Sound.shp (C:=Zd4) (fn:=Tryz.f163) (by kernel_rfl) (c:=bodyOf Tryz.f163) (by kernel_rfl) (by decide) (ctxOK mixed tbl_ok rfl ⟨Z76,trivial⟩ trivial) (SumOK.of ⟨(Yaj (d:=.loop (loopOf 3 Tryz.f163)) (by kernel_rfl) Z8w),trivial⟩) (by kernel_rfl) Zij Zm4 rfl (by decide) (by decide) rfl (by decide) rfl Z6m (fun x=>by kernel_rfl)
abbrev Zi8:Shape:={ sl:=[(0,(.hole (.slice y5))),(1,(.fn 198 .nil .nil))],bl:=[],ts:=[(.slice y5)],pin:=0 }
abbrev Zlt:Shape:={ sl:=sl_1,bl:=[],ts:=ts_1,pin:=0 }
def Z60 (x:(List (T7))):Option (Bool) :=
 (Z6m x).bind fun r13 =>
 some (decide (r13 ≥ (0:Int)))
abbrev Zpd:=Spec.shp Zi8 Zlt Z60
def Zcl:Ctx:={ tb:=mkTb T2.tbl,fx:=[(163,[198],Zpo)],sum:=[],nt:=9,pin:=0,nr:=true,ys:=[] }
theorem Z61:Sound Tryz.prog 113 (Zpd) :=
 Sound.shp (C:=Zcl) (fn:=Tryz.f113) (by kernel_rfl) (c:=bodyOf Tryz.f113) (by kernel_rfl) (by decide) (ctxOK mixed tbl_ok rfl ⟨Z6n,trivial⟩ trivial) (SumOK.of trivial) (by kernel_rfl) Zi8 Zlt rfl (by decide) (by decide) rfl (by decide) rfl Z60 (fun x=>by kernel_rfl)
abbrev Zf9:Shape:={ sl:=[(3,(.mp 0)),(7,(.hole (.slice y5))),(8,(.hole (.int .i64))),(9,(.hole (.int .i64)))],bl:=[.mp y4 (.int .i64)],ts:=[(.slice y5),(.int .i64),(.int .i64),(.slice y8)],pin:=0 }
abbrev Zee:List (ETag × Shape):=[(.exit 0,{ sl:=[(3,(.mp 0))],bl:=[.mp y4 (.int .i64)],ts:=[(.slice y8)],pin:=0 })]
def Z91 (x:(List (T7) × Int × Int × List (T8))):Option ((List (T7) × Int × Int × List (T8)) ⊕ (List (T8))) :=
 bif (decide (x.2.2.1 < x.2.1)) then
 bif (inb x.2.2.1 (List.length x.1)) then
 bif (inb (natI (@mpos (Int × Int) (Int) (Ty.beq y4) ((getAt ((0:Int),(0:Int),(0:Int)) x.1 (toN x.2.2.1)).1,(getAt ((0:Int),(0:Int),(0:Int)) x.1 (toN x.2.2.1)).2.1) x.2.2.2)) (List.length (@mput (Int × Int) (Int) (Ty.beq y4) ((getAt ((0:Int),(0:Int),(0:Int)) x.1 (toN x.2.2.1)).1,(getAt ((0:Int),(0:Int),(0:Int)) x.1 (toN x.2.2.1)).2.1) (@mlook (Int × Int) (Int) (Ty.beq y4) (Ty.zero (.int .i64)) ((getAt ((0:Int),(0:Int),(0:Int)) x.1 (toN x.2.2.1)).1,(getAt ((0:Int),(0:Int),(0:Int)) x.1 (toN x.2.2.1)).2.1) x.2.2.2) x.2.2.2))) then
 some (.inl (x.1,x.2.1,(IntKind.wrap .i64 (x.2.2.1+(1:Int))),(mset (@mput (Int × Int) (Int) (Ty.beq y4) ((getAt ((0:Int),(0:Int),(0:Int)) x.1 (toN x.2.2.1)).1,(getAt ((0:Int),(0:Int),(0:Int)) x.1 (toN x.2.2.1)).2.1) (@mlook (Int × Int) (Int) (Ty.beq y4) (Ty.zero (.int .i64)) ((getAt ((0:Int),(0:Int),(0:Int)) x.1 (toN x.2.2.1)).1,(getAt ((0:Int),(0:Int),(0:Int)) x.1 (toN x.2.2.1)).2.1) x.2.2.2) x.2.2.2) (toN (natI (@mpos (Int × Int) (Int) (Ty.beq y4) ((getAt ((0:Int),(0:Int),(0:Int)) x.1 (toN x.2.2.1)).1,(getAt ((0:Int),(0:Int),(0:Int)) x.1 (toN x.2.2.1)).2.1) x.2.2.2))) (IntKind.wrap .i64 ((@mlook (Int × Int) (Int) (Ty.beq y4) (Ty.zero (.int .i64)) ((getAt ((0:Int),(0:Int),(0:Int)) x.1 (toN x.2.2.1)).1,(getAt ((0:Int),(0:Int),(0:Int)) x.1 (toN x.2.2.1)).2.1) x.2.2.2)+(1:Int))))))
 else
 none
 else
 none
 else
 some (.inr x.2.2.2)
def Zdj:Ctx:={ tb:=mkTb T2.tbl,fx:=[],sum:=[],nt:=25,pin:=0,nr:=true,ys:=[] }
theorem Z92:CSound Tryz.prog ⟨25,0,true⟩ (.loop (loopOf 4 Tryz.f200)) (Yah Zf9 Zee (loop Z91)) :=
 Y81 (C:=Zdj) (ctxOK mixed tbl_ok rfl trivial trivial) (SumOK.of trivial) Zf9 Zee rfl rfl Z91 (fun x=>by kernel_rfl)
abbrev Ziu:Shape:={ sl:=sl_18,bl:=[],ts:=[(.slice y5)],pin:=0 }
abbrev Zmf:Shape:={ sl:=[(0,(.mp 0))],bl:=[.mp y4 (.int .i64)],ts:=[(.slice y8)],pin:=0 }
def Z7a (x:(List (T7))):Option (List (T8)) :=
 (loop Z91 (x,(((List.length x):Nat):Int),(0:Int),([]:List T8))).bind fun r14 =>
 some r14
abbrev Zpz:=Spec.shp Ziu Zmf Z7a
def Zdi:Ctx:={ tb:=mkTb T2.tbl,fx:=[],sum:=[(0,4,Yah Zf9 Zee (loop Z91))],nt:=25,pin:=0,nr:=true,ys:=[] }
theorem Z7b:Sound Tryz.prog 200 (Zpz) :=
 Sound.shp (C:=Zdi) (fn:=Tryz.f200) (by kernel_rfl) (c:=bodyOf Tryz.f200) (by kernel_rfl) (by decide) (ctxOK mixed tbl_ok rfl trivial trivial) (SumOK.of ⟨(Yaj (d:=.loop (loopOf 4 Tryz.f200)) (by kernel_rfl) Z92),trivial⟩) (by kernel_rfl) Ziu Zmf rfl (by decide) (by decide) rfl (by decide) rfl Z7a (fun x=>by kernel_rfl)
abbrev Zir:Shape:={ sl:=sl_18,bl:=[],ts:=[(.slice y5)],pin:=0 }
abbrev Zmc:Shape:={ sl:=sl_1,bl:=[],ts:=ts_1,pin:=0 }
def Z74 (x:(List (T7))):Option (Bool) :=
 (Z60 x).bind fun r12 =>
 bif r12 then
 some false
 else
 bif (decide ((((List.length x):Nat):Int) ≤ (64:Int))) then
 (Z7a x).bind fun r13 =>
 some ((((List.length r13):Nat):Int) == (((List.length x):Nat):Int))
 else
 some false
abbrev Zpw:=Spec.shp Zir Zmc Z74
def Zdf:Ctx:={ tb:=mkTb T2.tbl,fx:=[(113,[198],Zpd),(200,[],Zpz)],sum:=[],nt:=16,pin:=0,nr:=true,ys:=[] }
theorem Z77:Sound Tryz.prog 161 (Zpw) :=
 Sound.shp (C:=Zdf) (fn:=Tryz.f161) (by kernel_rfl) (c:=bodyOf Tryz.f161) (by kernel_rfl) (by decide) (ctxOK mixed tbl_ok rfl ⟨Z61,Z7b,trivial⟩ trivial) (SumOK.of trivial) (by kernel_rfl) Zir Zmc rfl (by decide) (by decide) rfl (by decide) rfl Z74 (fun x=>by kernel_rfl)
abbrev Zef:Shape:={ sl:=[(0,(.hole y0)),(1,(.hole (.int .i64))),(2,(.hole (.int .i64))),(9,(.hole y0)),(10,(.hole (.int .i64))),(11,(.hole (.int .i64)))],bl:=[],ts:=[y0,(.int .i64),(.int .i64),y0,(.int .i64),(.int .i64)],pin:=0 }
abbrev Zdk:List (ETag × Shape):=[(.ret,{ sl:=[(6,(.hole .bool))],bl:=[],ts:=ts_1,pin:=0 }),(.exit 0,{ sl:=sl_19,bl:=[],ts:=ts_3,pin:=0 })]
def Z7c (x:(List Int × Int × Int × List Int × Int × Int)):Option ((List Int × Int × Int × List Int × Int × Int) ⊕ ((Bool) ⊕ T9)) :=
 bif (decide (x.2.2.2.2.2 < x.2.2.2.2.1)) then
 bif (inb x.2.2.2.2.2 (List.length x.2.2.2.1)) then
 bif ((getAt (0:Int) x.2.2.2.1 (toN x.2.2.2.2.2)) != (IntKind.wrap .i64 (x.2.1+x.2.2.2.2.2))) then
 some (.inr (.inl false))
 else
 some (.inl (x.1,x.2.1,x.2.2.1,x.2.2.2.1,x.2.2.2.2.1,(IntKind.wrap .i64 (x.2.2.2.2.2+(1:Int)))))
 else
 none
 else
 some (.inr (.inr (x.1,x.2.1,x.2.2.1)))
def Z9c:Ctx:={ tb:=mkTb T2.tbl,fx:=[],sum:=[],nt:=28,pin:=0,nr:=true,ys:=[] }
theorem Z7d:CSound Tryz.prog ⟨28,0,true⟩ (.loop (loopOf 3 Tryz.f162)) (Yah Zef Zdk (loop Z7c)) :=
 Y81 (C:=Z9c) (ctxOK mixed tbl_ok rfl trivial trivial) (SumOK.of trivial) Zef Zdk rfl rfl Z7c (fun x=>by kernel_rfl)
abbrev Zfi:Shape:={ sl:=sl_19,bl:=[],ts:=ts_3,pin:=0 }
abbrev Zj3:Shape:={ sl:=sl_1,bl:=[],ts:=ts_1,pin:=0 }
def Zg (x:T9):Option (Bool) :=
 (loop Z7c (x.1,x.2.1,x.2.2,x.1,(((List.length x.1):Nat):Int),(0:Int))).bind fun r14 =>
 match r14 with
 | .inl y15 =>
 some y15
 | .inr y15 =>
 some ((((List.length y15.1):Nat):Int) == (IntKind.wrap .i64 (y15.2.2 - y15.2.1)))
abbrev Zmo:=Spec.shp Zfi Zj3 Zg
def Z9b:Ctx:={ tb:=mkTb T2.tbl,fx:=[],sum:=[(0,3,Yah Zef Zdk (loop Z7c))],nt:=28,pin:=0,nr:=true,ys:=[] }
theorem Zh:Sound Tryz.prog 162 (Zmo) :=
 Sound.shp (C:=Z9b) (fn:=Tryz.f162) (by kernel_rfl) (c:=bodyOf Tryz.f162) (by kernel_rfl) (by decide) (ctxOK mixed tbl_ok rfl trivial trivial) (SumOK.of ⟨(Yaj (d:=.loop (loopOf 3 Tryz.f162)) (by kernel_rfl) Z7d),trivial⟩) (by kernel_rfl) Zfi Zj3 rfl (by decide) (by decide) rfl (by decide) rfl Zg (fun x=>by kernel_rfl)
abbrev Zff:Shape:={ sl:=[(0,(.hole y40))],bl:=[],ts:=[y40],pin:=0 }
abbrev Zj0:Shape:={ sl:=sl_1,bl:=[],ts:=ts_1,pin:=0 }
def Za (x:T43):Option (Bool) :=
 (Z4u x.2.2.1).bind fun r10 =>
 bif (r10.2 != (0:Int)) then
 some false
 else
 bif (decide (x.1 < (Int.negSucc 0))) then
 some false
 else
 bif (decide (x.1 > (3:Int))) then
 some false
 else
 bif (x.2.2.1.1 != (Max.max x.1 (0:Int))) then
 some false
 else
 (Z74 x.2.2.2.2.2.1).bind fun r11 =>
 bif (Bool.not r11) then
 some false
 else
 (Z74 x.2.2.2.2.2.2).bind fun r12 =>
 bif (Bool.not r12) then
 some false
 else
 bif (decide (x.2.2.2.1 < (0:Int))) then
 some false
 else
 bif (decide (x.2.2.2.1 > (1048576:Int))) then
 some false
 else
 bif (decide (x.2.2.2.2.1 < (0:Int))) then
 some false
 else
 bif (decide (x.2.2.2.2.1 > x.2.2.2.1)) then
 some false
 else
 (Zg (r10.1,x.2.2.2.2.1,x.2.2.2.1)).bind fun r13 =>
 bif (Bool.not r13) then
 some false
 else
 bif (decide (x.1 < (0:Int))) then
 bif (Bool.not x.2.1) then
 bif (x.2.2.2.1 == (0:Int)) then
 bif (Bool.not (decide ((((List.length x.2.2.2.2.2.1):Nat):Int) > (0:Int)))) then
 some (Bool.not (decide ((((List.length x.2.2.2.2.2.2):Nat):Int) > (0:Int))))
 else
 some false
 else
 some false
 else
 some false
 else
 bif x.2.1 then
 bif (Bool.not (decide ((((List.length x.2.2.2.2.2.1):Nat):Int) > (0:Int)))) then
 some (Bool.not (decide ((((List.length x.2.2.2.2.2.2):Nat):Int) > (0:Int))))
 else
 some false
 else
 bif (Bool.not (decide ((((List.length x.2.2.2.2.2.1):Nat):Int) > (0:Int)))) then
 bif (Bool.not (decide ((((List.length x.2.2.2.2.2.2):Nat):Int) > (0:Int)))) then
 some true
 else
 some ((((List.length r10.1):Nat):Int) == (0:Int))
 else
 bif ((((List.length r10.1):Nat):Int) == x.1) then
 bif (Bool.not (decide ((((List.length x.2.2.2.2.2.2):Nat):Int) > (0:Int)))) then
 some true
 else
 some ((((List.length r10.1):Nat):Int) == (0:Int))
 else
 some false
abbrev Zml:=Spec.shp Zff Zj0 Za
def Z98:Ctx:={ tb:=mkTb T2.tbl,fx:=[(160,[],Zot),(161,[],Zpw),(162,[],Zmo)],sum:=[],nt:=130,pin:=0,nr:=true,ys:=[] }
theorem Zb:Sound Tryz.prog 112 (Zml) :=
 Sound.shp (C:=Z98) (fn:=Tryz.f112) (by kernel_rfl) (c:=bodyOf Tryz.f112) (by kernel_rfl) (by decide) (ctxOK mixed tbl_ok rfl ⟨Z4v,Z77,Zh,trivial⟩ trivial) (SumOK.of trivial) (by kernel_rfl) Zff Zj0 rfl (by decide) (by decide) rfl (by decide) rfl Za (fun x=>by kernel_rfl)
abbrev Zg2:Shape:={ sl:=[(0,(.hole .bool)),(1,(.ptr 0 [])),(2,(.ptr 1 []))],bl:=[.var (.hole y45),.var (.hole (.int .i64))],ts:=[.bool,y45,(.int .i64)],pin:=0 }
abbrev Zjn:Shape:={ sl:=[(0,(.fn 110 .nil (.cons (.ptr 0 []) (.cons (.ptr 1 []) (.cons (.ptr 2 []) .nil)))))],bl:=bl_8,ts:=[y45,(.int .i64),.bool],pin:=2 }
def Z1l (x:(Bool × (T47 × T61) × Int)):Option ((T47 × T61) × Int × Bool) :=
 some (x.2.1,x.2.2,x.1)
abbrev Zn8:=Spec.shp Zg2 Zjn Z1l
def Za0:Ctx:={ tb:=mkTb T2.tbl,fx:=[],sum:=[],nt:=6,pin:=2,nr:=true,ys:=[] }
theorem Z1o:Sound Tryz.prog 109 (Zn8) :=
 Sound.shp (C:=Za0) (fn:=Tryz.f109) (by kernel_rfl) (c:=bodyOf Tryz.f109) (by kernel_rfl) (by decide) (ctxOK mixed tbl_ok rfl trivial trivial) (SumOK.of trivial) (by kernel_rfl) Zg2 Zjn rfl (by decide) (by decide) rfl (by decide) rfl Z1l (fun x=>by kernel_rfl)
abbrev Zgx:Shape:={ sl:=[(0,(.hole y45)),(1,(.hole y5))],bl:=[],ts:=[y45,y5],pin:=0 }
abbrev Zki:Shape:={ sl:=[(0,(.hole y5)),(1,(.hole .bool))],bl:=[],ts:=[y5,.bool],pin:=0 }
def Z3d (x:((T47 × T61) × T7)):Option (T7 × Bool) :=
 bif (decide (x.2.1 ≥ (((List.length x.1.2.1):Nat):Int))) then
 some (((0:Int),(0:Int),(0:Int)),false)
 else
 bif (inb x.2.1 (List.length x.1.2.1)) then
 bif ((getAt ((0:Int),(0:Int),(0:Int),false) x.1.2.1 (toN x.2.1)).2.2.1 != (1:Int)) then
 some (((0:Int),(0:Int),(0:Int)),false)
 else
 bif (inb x.2.1 (List.length x.1.2.1)) then
 bif (inb (getAt ((0:Int),(0:Int),(0:Int),false) x.1.2.1 (toN x.2.1)).1 (List.length x.1.1.2.2.2.2.2)) then
 bif (inb (getAt ((0:Int),(0:Int),(0:Int),false) x.1.2.1 (toN x.2.1)).2.1 (List.length (getAt ([]:List T7) x.1.1.2.2.2.2.2 (toN (getAt ((0:Int),(0:Int),(0:Int),false) x.1.2.1 (toN x.2.1)).1)))) then
 some ((getAt ((0:Int),(0:Int),(0:Int)) (getAt ([]:List T7) x.1.1.2.2.2.2.2 (toN (getAt ((0:Int),(0:Int),(0:Int),false) x.1.2.1 (toN x.2.1)).1)) (toN (getAt ((0:Int),(0:Int),(0:Int),false) x.1.2.1 (toN x.2.1)).2.1)),true)
 else
 none
 else
 none
 else
 none
 else
 none
abbrev Zo3:=Spec.shp Zgx Zki Z3d
def Zb1:Ctx:={ tb:=mkTb T2.tbl,fx:=[],sum:=[],nt:=41,pin:=0,nr:=true,ys:=[] }
theorem Z3e:Sound Tryz.prog 116 (Zo3) :=
 Sound.shp (C:=Zb1) (fn:=Tryz.f116) (by kernel_rfl) (c:=bodyOf Tryz.f116) (by kernel_rfl) (by decide) (ctxOK mixed tbl_ok rfl trivial trivial) (SumOK.of trivial) (by kernel_rfl) Zgx Zki rfl (by decide) (by decide) rfl (by decide) rfl Z3d (fun x=>by kernel_rfl)
abbrev Zfx:Shape:={ sl:=[(0,(.hole y45)),(1,(.hole y5)),(2,(.hole (.int .i64))),(3,(.hole .bool))],bl:=[],ts:=[y45,y5,(.int .i64),.bool],pin:=0 }
abbrev Zji:Shape:={ sl:=sl_1,bl:=[],ts:=ts_1,pin:=0 }
def Z1c (x:((T47 × T61) × T7 × Int × Bool)):Option (Bool) :=
 (Z3d (x.1,x.2.1)).bind fun r16 =>
 bif (Bool.not r16.2) then
 some false
 else
 bif (r16.1.1 == (4:Int)) then
 bif (inb r16.1.2.1 (List.length x.1.1.2.2.2.2.1)) then
 bif (decide (x.2.1.2.1 < (((List.length (getAt (([]:List T0),false) x.1.1.2.2.2.2.1 (toN r16.1.2.1)).1):Nat):Int))) then
 bif (inb x.2.1.2.1 (List.length (getAt (([]:List T0),false) x.1.1.2.2.2.2.1 (toN r16.1.2.1)).1)) then
 some (((getAt (false,(0:Int)) (getAt (([]:List T0),false) x.1.1.2.2.2.2.1 (toN r16.1.2.1)).1 (toN x.2.1.2.1)).1 == (x.2.2.2,x.2.2.1).1) && ((getAt (false,(0:Int)) (getAt (([]:List T0),false) x.1.1.2.2.2.2.1 (toN r16.1.2.1)).1 (toN x.2.1.2.1)).2 == (x.2.2.2,x.2.2.1).2))
 else
 none
 else
 some false
 else
 none
 else
 bif x.2.2.2 then
 some ((r16.1.1 == ((1:Int),x.2.2.1,(0:Int)).1) && ((r16.1.2.1 == ((1:Int),x.2.2.1,(0:Int)).2.1) && (r16.1.2.2 == ((1:Int),x.2.2.1,(0:Int)).2.2)))
 else
 some ((r16.1.1 == ((2:Int),x.2.2.1,(0:Int)).1) && ((r16.1.2.1 == ((2:Int),x.2.2.1,(0:Int)).2.1) && (r16.1.2.2 == ((2:Int),x.2.2.1,(0:Int)).2.2)))
abbrev Zn3:=Spec.shp Zfx Zji Z1c
def Z9t:Ctx:={ tb:=mkTb T2.tbl,fx:=[(116,[],Zo3)],sum:=[],nt:=59,pin:=0,nr:=true,ys:=[] }
theorem Z1d:Sound Tryz.prog 111 (Zn3) :=
 Sound.shp (C:=Z9t) (fn:=Tryz.f111) (by kernel_rfl) (c:=bodyOf Tryz.f111) (by kernel_rfl) (by decide) (ctxOK mixed tbl_ok rfl ⟨Z3e,trivial⟩ trivial) (SumOK.of trivial) (by kernel_rfl) Zfx Zji rfl (by decide) (by decide) rfl (by decide) rfl Z1c (fun x=>by kernel_rfl)
abbrev Zg3:Shape:={ sl:=sl_20,bl:=bl_8,ts:=[y5,y45,(.int .i64),.bool],pin:=0 }
abbrev Zjo:Shape:={ sl:=sl_1,bl:=bl_8,ts:=[.bool,y45,(.int .i64),.bool],pin:=3 }
def Z1m (x:(T7 × (T47 × T61) × Int × Bool)):Option (Bool × (T47 × T61) × Int × Bool) :=
 (Z1c (x.2.1,x.1,x.2.2.1,x.2.2.2)).bind fun r15 =>
 some ((Bool.not r15),x.2.1,x.2.2.1,x.2.2.2)
abbrev Zn9:=Spec.shp Zg3 Zjo Z1m
def Za2:Ctx:={ tb:=mkTb T2.tbl,fx:=[(111,[],Zn3)],sum:=[],nt:=12,pin:=3,nr:=true,ys:=[] }
theorem Z1n:Sound Tryz.prog 110 (Zn9) :=
 Sound.shp (C:=Za2) (fn:=Tryz.f110) (by kernel_rfl) (c:=bodyOf Tryz.f110) (by kernel_rfl) (by decide) (ctxOK mixed tbl_ok rfl ⟨Z1d,trivial⟩ trivial) (SumOK.of trivial) (by kernel_rfl) Zg3 Zjo rfl (by decide) (by decide) rfl (by decide) rfl Z1m (fun x=>by kernel_rfl)
abbrev Zf2:Shape:={ sl:=[(0,(.hole (.slice y5))),(1,(.fn 110 .nil (.cons (.ptr 0 []) (.cons (.ptr 1 []) (.cons (.ptr 2 []) .nil))))),(7,(.hole (.int .i64))),(8,(.hole (.int .i64)))],bl:=bl_8,ts:=[(.slice y5),(.int .i64),(.int .i64),y45,(.int .i64),.bool],pin:=3 }
abbrev Ze7:List (ETag × Shape):=[(.ret,{ sl:=sl_3,bl:=bl_8,ts:=[(.int .i64),y45,(.int .i64),.bool],pin:=3 }),(.exit 0,{ sl:=[],bl:=bl_8,ts:=[y45,(.int .i64),.bool],pin:=3 })]
def Z8n (x:(List (T7) × Int × Int × (T47 × T61) × Int × Bool)):Option ((List (T7) × Int × Int × (T47 × T61) × Int × Bool) ⊕ ((Int × (T47 × T61) × Int × Bool) ⊕ ((T47 × T61) × Int × Bool))) :=
 bif (decide (x.2.2.1 < x.2.1)) then
 bif (inb x.2.2.1 (List.length x.1)) then
 (Z1m ((getAt ((0:Int),(0:Int),(0:Int)) x.1 (toN x.2.2.1)),x.2.2.2.1,x.2.2.2.2.1,x.2.2.2.2.2)).bind fun r14 =>
 bif r14.1 then
 some (.inr (.inl (x.2.2.1,r14.2.1,r14.2.2.1,r14.2.2.2)))
 else
 some (.inl (x.1,x.2.1,(IntKind.wrap .i64 (x.2.2.1+(1:Int))),r14.2.1,r14.2.2.1,r14.2.2.2))
 else
 none
 else
 some (.inr (.inr (x.2.2.2.1,x.2.2.2.2.1,x.2.2.2.2.2)))
def Zcx:Ctx:={ tb:=mkTb T2.tbl,fx:=[(110,[],Zn9)],sum:=[],nt:=19,pin:=3,nr:=true,ys:=[] }
theorem Z8o:CSound Tryz.prog ⟨19,3,true⟩ (.loop (loopOf 3 Tryz.f163)) (Yah Zf2 Ze7 (loop Z8n)) :=
 Y81 (C:=Zcx) (ctxOK mixed tbl_ok rfl ⟨Z1n,trivial⟩ trivial) (SumOK.of trivial) Zf2 Ze7 rfl rfl Z8n (fun x=>by kernel_rfl)
abbrev Zif:Shape:={ sl:=sl_21,bl:=bl_8,ts:=[(.slice y5),y45,(.int .i64),.bool],pin:=0 }
abbrev Zm0:Shape:={ sl:=sl_2,bl:=bl_8,ts:=[(.int .i64),y45,(.int .i64),.bool],pin:=3 }
def Z6e (x:(List (T7) × (T47 × T61) × Int × Bool)):Option (Int × (T47 × T61) × Int × Bool) :=
 (loop Z8n (x.1,(((List.length x.1):Nat):Int),(0:Int),x.2.1,x.2.2.1,x.2.2.2)).bind fun r13 =>
 match r13 with
 | .inl y14 =>
 some (y14.1,y14.2.1,y14.2.2.1,y14.2.2.2)
 | .inr y14 =>
 some ((Int.negSucc 0),y14.1,y14.2.1,y14.2.2)
abbrev Zpk:=Spec.shp Zif Zm0 Z6e
def Zcw:Ctx:={ tb:=mkTb T2.tbl,fx:=[(110,[],Zn9)],sum:=[(0,3,Yah Zf2 Ze7 (loop Z8n))],nt:=19,pin:=3,nr:=true,ys:=[] }
theorem Z6f:Sound Tryz.prog 163 (Zpk) :=
 Sound.shp (C:=Zcw) (fn:=Tryz.f163) (by kernel_rfl) (c:=bodyOf Tryz.f163) (by kernel_rfl) (by decide) (ctxOK mixed tbl_ok rfl ⟨Z1n,trivial⟩ trivial) (SumOK.of ⟨(Yaj (d:=.loop (loopOf 3 Tryz.f163)) (by kernel_rfl) Z8o),trivial⟩) (by kernel_rfl) Zif Zm0 rfl (by decide) (by decide) rfl (by decide) rfl Z6e (fun x=>by kernel_rfl)
abbrev Zi6:Shape:={ sl:=sl_21,bl:=bl_8,ts:=[(.slice y5),y45,(.int .i64),.bool],pin:=0 }
abbrev Zlr:Shape:={ sl:=sl_1,bl:=bl_8,ts:=[.bool,y45,(.int .i64),.bool],pin:=3 }
def Z5w (x:(List (T7) × (T47 × T61) × Int × Bool)):Option (Bool × (T47 × T61) × Int × Bool) :=
 (Z6e (x.1,x.2.1,x.2.2.1,x.2.2.2)).bind fun r12 =>
 some ((decide (r12.1 ≥ (0:Int))),r12.2.1,r12.2.2.1,r12.2.2.2)
abbrev Zpb:=Spec.shp Zi6 Zlr Z5w
def Zcj:Ctx:={ tb:=mkTb T2.tbl,fx:=[(163,[110],Zpk)],sum:=[],nt:=9,pin:=3,nr:=true,ys:=[] }
theorem Z5x:Sound Tryz.prog 113 (Zpb) :=
 Sound.shp (C:=Zcj) (fn:=Tryz.f113) (by kernel_rfl) (c:=bodyOf Tryz.f113) (by kernel_rfl) (by decide) (ctxOK mixed tbl_ok rfl ⟨Z6f,trivial⟩ trivial) (SumOK.of trivial) (by kernel_rfl) Zi6 Zlr rfl (by decide) (by decide) rfl (by decide) rfl Z5w (fun x=>by kernel_rfl)
abbrev Zel:Shape:={ sl:=[(1,(.ptr 0 [])),(3,(.ptr 1 [])),(64,(.hole y41)),(65,(.hole (.int .i64))),(66,(.hole (.int .i64)))],bl:=[.var (.hole y45),.var (.hole y39)],ts:=[y41,(.int .i64),(.int .i64),y45,y39],pin:=0 }
abbrev Zdq:List (ETag × Shape):=[(.ret,{ sl:=[(2,(.hole .bool))],bl:=[],ts:=ts_1,pin:=0 }),(.exit 0,{ sl:=[(1,(.ptr 0 []))],bl:=bl_9,ts:=[y45],pin:=0 })]
def Z7o (x:(List T43 × Int × Int × (T47 × T61) × T47)):Option ((List T43 × Int × Int × (T47 × T61) × T47) ⊕ ((Bool) ⊕ T62)) :=
 bif (decide (x.2.2.1 < x.2.1)) then
 bif (inb x.2.2.1 (List.length x.1)) then
 (Za (getAt ((0:Int),false,((0:Int),(0:Int),([]:List Int),(0:Int)),(0:Int),(0:Int),([]:List T7),([]:List T7)) x.1 (toN x.2.2.1))).bind fun r9 =>
 bif (Bool.not r9) then
 some (.inr (.inl false))
 else
 bif (inb x.2.2.1 (List.length x.2.2.2.2.1)) then
 bif ((getAt ((0:Int),false,((0:Int),(0:Int),([]:List Int),(0:Int)),(0:Int),(0:Int),([]:List T7),([]:List T7)) x.1 (toN x.2.2.1)).1 != (getAt (0:Int) x.2.2.2.2.1 (toN x.2.2.1))) then
 some (.inr (.inl false))
 else
 (Z1l (true,x.2.2.2.1,x.2.2.1)).bind fun r10 =>
 (Z5w ((getAt ((0:Int),false,((0:Int),(0:Int),([]:List Int),(0:Int)),(0:Int),(0:Int),([]:List T7),([]:List T7)) x.1 (toN x.2.2.1)).2.2.2.2.2.1,r10.1,r10.2.1,r10.2.2)).bind fun r11 =>
 bif r11.1 then
 some (.inr (.inl false))
 else
 (Z1l (false,r11.2.1,r11.2.2.1)).bind fun r12 =>
 (Z5w ((getAt ((0:Int),false,((0:Int),(0:Int),([]:List Int),(0:Int)),(0:Int),(0:Int),([]:List T7),([]:List T7)) x.1 (toN x.2.2.1)).2.2.2.2.2.2,r12.1,r12.2.1,r12.2.2)).bind fun r13 =>
 bif r13.1 then
 some (.inr (.inl false))
 else
 some (.inl (x.1,x.2.1,(IntKind.wrap .i64 (x.2.2.1+(1:Int))),r13.2.1,x.2.2.2.2))
 else
 none
 else
 none
 else
 some (.inr (.inr x.2.2.2.1))
def Za5:Ctx:={ tb:=mkTb T2.tbl,fx:=[(38,[],Zod),(95,[107],Zp9),(112,[],Zml),(109,[],Zn8),(113,[110],Zpb)],sum:=[],nt:=141,pin:=0,nr:=true,ys:=[] }
theorem Z7p:CSound Tryz.prog ⟨141,0,true⟩ (.loop (loopOf 8 Tryz.f57)) (Yah Zel Zdq (loop Z7o)) :=
 Y81 (C:=Za5) (ctxOK mixed tbl_ok rfl ⟨Z3z,Z5t,Zb,Z1o,Z5x,trivial⟩ trivial) (SumOK.of trivial) Zel Zdq rfl rfl Z7o (fun x=>by kernel_rfl)
abbrev Zfr:Shape:={ sl:=[(0,(.hole y15))],bl:=[],ts:=[y15],pin:=0 }
abbrev Zjc:Shape:={ sl:=sl_1,bl:=[],ts:=ts_1,pin:=0 }
def Z10 (x:(T18)):Option (Bool) :=
 (Z74 x.2).bind fun r12 =>
 bif r12 then
 bif x.1 then
 some true
 else
 some ((((List.length x.2):Nat):Int) == (0:Int))
 else
 some false
abbrev Zmx:=Spec.shp Zfr Zjc Z10
def Z9l:Ctx:={ tb:=mkTb T2.tbl,fx:=[(161,[],Zpw)],sum:=[],nt:=16,pin:=0,nr:=true,ys:=[] }
theorem Z11:Sound Tryz.prog 117 (Zmx) :=
 Sound.shp (C:=Z9l) (fn:=Tryz.f117) (by kernel_rfl) (c:=bodyOf Tryz.f117) (by kernel_rfl) (by decide) (ctxOK mixed tbl_ok rfl ⟨Z77,trivial⟩ trivial) (SumOK.of trivial) (by kernel_rfl) Zfr Zjc rfl (by decide) (by decide) rfl (by decide) rfl Z10 (fun x=>by kernel_rfl)
abbrev Zg4:Shape:={ sl:=[(0,(.hole (.int .i64))),(1,(.hole (.int .i64))),(2,(.ptr 0 []))],bl:=bl_9,ts:=[(.int .i64),(.int .i64),y45],pin:=0 }
abbrev Zjp:Shape:={ sl:=[(0,(.fn 115 .nil (.cons (.ptr 0 []) (.cons (.ptr 1 []) (.cons (.ptr 2 []) .nil)))))],bl:=bl_10,ts:=[y45,(.int .i64),(.int .i64)],pin:=1 }
def Z1p (x:(Int × Int × (T47 × T61))):Option ((T47 × T61) × Int × Int) :=
 some (x.2.2,x.1,x.2.1)
abbrev Zna:=Spec.shp Zg4 Zjp Z1p
def Za3:Ctx:={ tb:=mkTb T2.tbl,fx:=[],sum:=[],nt:=7,pin:=1,nr:=true,ys:=[] }
theorem Z1s:Sound Tryz.prog 114 (Zna) :=
 Sound.shp (C:=Za3) (fn:=Tryz.f114) (by kernel_rfl) (c:=bodyOf Tryz.f114) (by kernel_rfl) (by decide) (ctxOK mixed tbl_ok rfl trivial trivial) (SumOK.of trivial) (by kernel_rfl) Zg4 Zjp rfl (by decide) (by decide) rfl (by decide) rfl Z1p (fun x=>by kernel_rfl)
abbrev Zg5:Shape:={ sl:=sl_20,bl:=bl_10,ts:=[y5,y45,(.int .i64),(.int .i64)],pin:=0 }
abbrev Zjq:Shape:={ sl:=sl_1,bl:=bl_10,ts:=[.bool,y45,(.int .i64),(.int .i64)],pin:=3 }
def Z1q (x:(T7 × (T47 × T61) × Int × Int)):Option (Bool × (T47 × T61) × Int × Int) :=
 (Z3d (x.2.1,x.1)).bind fun r17 =>
 bif (Bool.not r17.2) then
 some (true,x.2.1,x.2.2.1,x.2.2.2)
 else
 bif (r17.1.1 != x.2.2.1) then
 some (true,x.2.1,x.2.2.1,x.2.2.2)
 else
 some ((r17.1.2.1 != x.2.2.2),x.2.1,x.2.2.1,x.2.2.2)
abbrev Znb:=Spec.shp Zg5 Zjq Z1q
def Za4:Ctx:={ tb:=mkTb T2.tbl,fx:=[(116,[],Zo3)],sum:=[],nt:=28,pin:=3,nr:=true,ys:=[] }
theorem Z1r:Sound Tryz.prog 115 (Znb) :=
 Sound.shp (C:=Za4) (fn:=Tryz.f115) (by kernel_rfl) (c:=bodyOf Tryz.f115) (by kernel_rfl) (by decide) (ctxOK mixed tbl_ok rfl ⟨Z3e,trivial⟩ trivial) (SumOK.of trivial) (by kernel_rfl) Zg5 Zjq rfl (by decide) (by decide) rfl (by decide) rfl Z1q (fun x=>by kernel_rfl)
abbrev Zf3:Shape:={ sl:=[(0,(.hole (.slice y5))),(1,(.fn 115 .nil (.cons (.ptr 0 []) (.cons (.ptr 1 []) (.cons (.ptr 2 []) .nil))))),(7,(.hole (.int .i64))),(8,(.hole (.int .i64)))],bl:=bl_10,ts:=[(.slice y5),(.int .i64),(.int .i64),y45,(.int .i64),(.int .i64)],pin:=3 }
abbrev Ze8:List (ETag × Shape):=[(.ret,{ sl:=sl_3,bl:=bl_10,ts:=[(.int .i64),y45,(.int .i64),(.int .i64)],pin:=3 }),(.exit 0,{ sl:=[],bl:=bl_10,ts:=[y45,(.int .i64),(.int .i64)],pin:=3 })]
def Z8p (x:(List (T7) × Int × Int × (T47 × T61) × Int × Int)):Option ((List (T7) × Int × Int × (T47 × T61) × Int × Int) ⊕ ((Int × (T47 × T61) × Int × Int) ⊕ ((T47 × T61) × Int × Int))) :=
 bif (decide (x.2.2.1 < x.2.1)) then
 bif (inb x.2.2.1 (List.length x.1)) then
 (Z1q ((getAt ((0:Int),(0:Int),(0:Int)) x.1 (toN x.2.2.1)),x.2.2.2.1,x.2.2.2.2.1,x.2.2.2.2.2)).bind fun r16 =>
 bif r16.1 then
 some (.inr (.inl (x.2.2.1,r16.2.1,r16.2.2.1,r16.2.2.2)))
 else
 some (.inl (x.1,x.2.1,(IntKind.wrap .i64 (x.2.2.1+(1:Int))),r16.2.1,r16.2.2.1,r16.2.2.2))
 else
 none
 else
 some (.inr (.inr (x.2.2.2.1,x.2.2.2.2.1,x.2.2.2.2.2)))
def Zcz:Ctx:={ tb:=mkTb T2.tbl,fx:=[(115,[],Znb)],sum:=[],nt:=19,pin:=3,nr:=true,ys:=[] }
theorem Z8q:CSound Tryz.prog ⟨19,3,true⟩ (.loop (loopOf 3 Tryz.f163)) (Yah Zf3 Ze8 (loop Z8p)) :=
 Y81 (C:=Zcz) (ctxOK mixed tbl_ok rfl ⟨Z1r,trivial⟩ trivial) (SumOK.of trivial) Zf3 Ze8 rfl rfl Z8p (fun x=>by kernel_rfl)
abbrev Zig:Shape:={ sl:=sl_22,bl:=bl_10,ts:=[(.slice y5),y45,(.int .i64),(.int .i64)],pin:=0 }
abbrev Zm1:Shape:={ sl:=sl_2,bl:=bl_10,ts:=[(.int .i64),y45,(.int .i64),(.int .i64)],pin:=3 }
def Z6g (x:(List (T7) × (T47 × T61) × Int × Int)):Option (Int × (T47 × T61) × Int × Int) :=
 (loop Z8p (x.1,(((List.length x.1):Nat):Int),(0:Int),x.2.1,x.2.2.1,x.2.2.2)).bind fun r15 =>
 match r15 with
 | .inl y16 =>
 some (y16.1,y16.2.1,y16.2.2.1,y16.2.2.2)
 | .inr y16 =>
 some ((Int.negSucc 0),y16.1,y16.2.1,y16.2.2)
abbrev Zpl:=Spec.shp Zig Zm1 Z6g
def Zcy:Ctx:={ tb:=mkTb T2.tbl,fx:=[(115,[],Znb)],sum:=[(0,3,Yah Zf3 Ze8 (loop Z8p))],nt:=19,pin:=3,nr:=true,ys:=[] }
theorem Z6h:Sound Tryz.prog 163 (Zpl) :=
 Sound.shp (C:=Zcy) (fn:=Tryz.f163) (by kernel_rfl) (c:=bodyOf Tryz.f163) (by kernel_rfl) (by decide) (ctxOK mixed tbl_ok rfl ⟨Z1r,trivial⟩ trivial) (SumOK.of ⟨(Yaj (d:=.loop (loopOf 3 Tryz.f163)) (by kernel_rfl) Z8q),trivial⟩) (by kernel_rfl) Zig Zm1 rfl (by decide) (by decide) rfl (by decide) rfl Z6g (fun x=>by kernel_rfl)
abbrev Zi7:Shape:={ sl:=sl_22,bl:=bl_10,ts:=[(.slice y5),y45,(.int .i64),(.int .i64)],pin:=0 }
abbrev Zls:Shape:={ sl:=sl_1,bl:=bl_10,ts:=[.bool,y45,(.int .i64),(.int .i64)],pin:=3 }
def Z5y (x:(List (T7) × (T47 × T61) × Int × Int)):Option (Bool × (T47 × T61) × Int × Int) :=
 (Z6g (x.1,x.2.1,x.2.2.1,x.2.2.2)).bind fun r14 =>
 some ((decide (r14.1 ≥ (0:Int))),r14.2.1,r14.2.2.1,r14.2.2.2)
abbrev Zpc:=Spec.shp Zi7 Zls Z5y
def Zck:Ctx:={ tb:=mkTb T2.tbl,fx:=[(163,[115],Zpl)],sum:=[],nt:=9,pin:=3,nr:=true,ys:=[] }
theorem Z5z:Sound Tryz.prog 113 (Zpc) :=
 Sound.shp (C:=Zck) (fn:=Tryz.f113) (by kernel_rfl) (c:=bodyOf Tryz.f113) (by kernel_rfl) (by decide) (ctxOK mixed tbl_ok rfl ⟨Z6h,trivial⟩ trivial) (SumOK.of trivial) (by kernel_rfl) Zi7 Zls rfl (by decide) (by decide) rfl (by decide) rfl Z5y (fun x=>by kernel_rfl)
abbrev Zej:Shape:={ sl:=[(1,(.ptr 0 [])),(7,(.fn 114 .nil (.cons (.ptr 0 []) .nil))),(102,(.hole y19)),(103,(.hole (.int .i64))),(104,(.hole (.int .i64)))],bl:=bl_9,ts:=[y19,(.int .i64),(.int .i64),y45],pin:=0 }
abbrev Zdo:List (ETag × Shape):=[(.ret,{ sl:=[(2,(.hole .bool))],bl:=[],ts:=ts_1,pin:=0 }),(.exit 2,{ sl:=[(1,(.ptr 0 [])),(7,(.fn 114 .nil (.cons (.ptr 0 []) .nil)))],bl:=bl_9,ts:=[y45],pin:=0 })]
def Z7k (x:(List (T18) × Int × Int × (T47 × T61))):Option ((List (T18) × Int × Int × (T47 × T61)) ⊕ ((Bool) ⊕ T62)) :=
 bif (decide (x.2.2.1 < x.2.1)) then
 bif (inb x.2.2.1 (List.length x.1)) then
 (Z10 (getAt (false,([]:List T7)) x.1 (toN x.2.2.1))).bind fun r11 =>
 bif (Bool.not r11) then
 some (.inr (.inl false))
 else
 (Z1p ((5:Int),x.2.2.1,x.2.2.2)).bind fun r12 =>
 (Z5y ((getAt (false,([]:List T7)) x.1 (toN x.2.2.1)).2,r12.1,r12.2.1,r12.2.2)).bind fun r13 =>
 bif r13.1 then
 some (.inr (.inl false))
 else
 some (.inl (x.1,x.2.1,(IntKind.wrap .i64 (x.2.2.1+(1:Int))),r13.2.1))
 else
 none
 else
 some (.inr (.inr x.2.2.2))
def Z9z:Ctx:={ tb:=mkTb T2.tbl,fx:=[(38,[],Zod),(95,[107],Zp9),(112,[],Zml),(109,[],Zn8),(113,[110],Zpb),(117,[],Zmx),(114,[],Zna),(113,[115],Zpc)],sum:=[(0,8,Yah Zel Zdq (loop Z7o))],nt:=141,pin:=0,nr:=true,ys:=[] }
theorem Z7l:CSound Tryz.prog ⟨141,0,true⟩ (.loop (loopOf 16 Tryz.f57)) (Yah Zej Zdo (loop Z7k)) :=
 Y81 (C:=Z9z) (ctxOK mixed tbl_ok rfl ⟨Z3z,Z5t,Zb,Z1o,Z5x,Z11,Z1s,Z5z,trivial⟩ trivial) (SumOK.of ⟨(Yai (by kernel_rfl)),trivial⟩) Zej Zdo rfl rfl Z7k (fun x=>by kernel_rfl)
abbrev Zi1:Shape:={ sl:=sl_18,bl:=[],ts:=[(.slice y5)],pin:=0 }
abbrev Zlm:Shape:={ sl:=[(0,(.sl 0))],bl:=[.row y5],ts:=[(.slice y5)],pin:=0 }
def Z5m (x:(List (T7))):Option (List (T7)) :=
 bif (@Nat.beq (List.length x) (0:Nat)) then
 amb (
 some ([]:List T7)) (
 bif (fits ((List.length ([]:List T7))+(List.length x))) then
 some (([]:List T7)++x)
 else
 none)
 else
 bif (fits ((List.length ([]:List T7))+(List.length x))) then
 some (([]:List T7)++x)
 else
 none
abbrev Zp6:=Spec.shp Zi1 Zlm Z5m
def Zce:Ctx:={ tb:=mkTb T2.tbl,fx:=[],sum:=[],nt:=8,pin:=0,nr:=true,ys:=[] }
theorem Z5n:Sound Tryz.prog 202 (Zp6) :=
 Sound.shp (C:=Zce) (fn:=Tryz.f202) (by kernel_rfl) (c:=bodyOf Tryz.f202) (by kernel_rfl) (by decide) (ctxOK mixed tbl_ok rfl trivial trivial) (SumOK.of trivial) (by kernel_rfl) Zi1 Zlm rfl (by decide) (by decide) rfl (by decide) rfl Z5m (fun x=>by kernel_rfl)
abbrev Zin:Shape:={ sl:=[(0,(.hole y5)),(1,(.ptr 0 []))],bl:=bl_3,ts:=[y5,(.int .i64)],pin:=0 }
abbrev Zm8:Shape:={ sl:=sl_1,bl:=bl_3,ts:=[.bool,(.int .i64)],pin:=1 }
def Z6t (x:(T7 × Int)):Option T0 :=
 some ((x.1.1 == x.2),x.2)
abbrev Zps:=Spec.shp Zin Zm8 Z6t
def Zdb:Ctx:={ tb:=mkTb T2.tbl,fx:=[],sum:=[],nt:=8,pin:=1,nr:=true,ys:=[] }
theorem Z6u:Sound Tryz.prog 203 (Zps) :=
 Sound.shp (C:=Zdb) (fn:=Tryz.f203) (by kernel_rfl) (c:=bodyOf Tryz.f203) (by kernel_rfl) (by decide) (ctxOK mixed tbl_ok rfl trivial trivial) (SumOK.of trivial) (by kernel_rfl) Zin Zm8 rfl (by decide) (by decide) rfl (by decide) rfl Z6t (fun x=>by kernel_rfl)
theorem Z6v:Sound Tryz.prog 203 (Spec.shpR Zin Zm8 Z6t) :=
 Sound.shpR (fun x y h=>by have h:=Option.some.inj h; subst h; rfl) Z6u
abbrev Zf4:Shape:={ sl:=[(0,(.sl 0)),(1,(.fn 203 .nil (.cons (.ptr 1 []) .nil))),(7,(.hole (.int .i64))),(8,(.hole (.int .i64)))],bl:=bl_11,ts:=[(.int .i64),(.int .i64),(.slice y5),(.int .i64)],pin:=2 }
abbrev Ze9:List (ETag × Shape):=[(.ret,{ sl:=sl_3,bl:=bl_11,ts:=[(.int .i64),(.slice y5),(.int .i64)],pin:=2 }),(.exit 0,{ sl:=[],bl:=bl_11,ts:=ts_12,pin:=2 })]
def Z8r (x:(Int × Int × List (T7) × Int)):Option ((Int × Int × List (T7) × Int) ⊕ ((Int × List (T7) × Int) ⊕ T15)) :=
 bif (decide (x.2.1 < x.1)) then
 bif (inb x.2.1 (List.length x.2.2.1)) then
 (Z6t ((getAt ((0:Int),(0:Int),(0:Int)) x.2.2.1 (toN x.2.1)),x.2.2.2)).bind fun r21 =>
 bif r21.1 then
 some (.inr (.inl (x.2.1,x.2.2.1,x.2.2.2)))
 else
 some (.inl (x.1,(IntKind.wrap .i64 (x.2.1+(1:Int))),x.2.2.1,x.2.2.2))
 else
 none
 else
 some (.inr (.inr (x.2.2.1,x.2.2.2)))
def Zd1:Ctx:={ tb:=mkTb T2.tbl,fx:=[(203,[],Spec.shpR Zin Zm8 Z6t)],sum:=[],nt:=19,pin:=2,nr:=true,ys:=[] }
theorem Z8s:CSound Tryz.prog ⟨19,2,true⟩ (.loop (loopOf 3 Tryz.f163)) (Yah Zf4 Ze9 (loop Z8r)) :=
 Y81 (C:=Zd1) (ctxOK mixed tbl_ok rfl ⟨Z6v,trivial⟩ trivial) (SumOK.of trivial) Zf4 Ze9 rfl rfl Z8r (fun x=>by kernel_rfl)
abbrev Zih:Shape:={ sl:=[(0,(.sl 0)),(1,(.fn 203 .nil (.cons (.ptr 1 []) .nil)))],bl:=bl_11,ts:=ts_12,pin:=0 }
abbrev Zm2:Shape:={ sl:=sl_2,bl:=bl_11,ts:=[(.int .i64),(.slice y5),(.int .i64)],pin:=2 }
def Z6i (x:T15):Option (Int × List (T7) × Int) :=
 (loop Z8r ((((List.length x.1):Nat):Int),(0:Int),x.1,x.2)).bind fun r20 =>
 match r20 with
 | .inl y21 =>
 some (y21.1,y21.2.1,y21.2.2)
 | .inr y21 =>
 some ((Int.negSucc 0),y21.1,y21.2)
abbrev Zpm:=Spec.shp Zih Zm2 Z6i
def Zd0:Ctx:={ tb:=mkTb T2.tbl,fx:=[(203,[],Spec.shpR Zin Zm8 Z6t)],sum:=[(0,3,Yah Zf4 Ze9 (loop Z8r))],nt:=19,pin:=2,nr:=true,ys:=[] }
theorem Z6j:Sound Tryz.prog 163 (Zpm) :=
 Sound.shp (C:=Zd0) (fn:=Tryz.f163) (by kernel_rfl) (c:=bodyOf Tryz.f163) (by kernel_rfl) (by decide) (ctxOK mixed tbl_ok rfl ⟨Z6v,trivial⟩ trivial) (SumOK.of ⟨(Yaj (d:=.loop (loopOf 3 Tryz.f163)) (by kernel_rfl) Z8s),trivial⟩) (by kernel_rfl) Zih Zm2 rfl (by decide) (by decide) rfl (by decide) rfl Z6i (fun x=>by kernel_rfl)
abbrev Zey:Shape:={ sl:=[(0,(.sl 1)),(1,(.fn 203 .nil (.cons (.ptr 0 []) .nil))),(5,(.hole (.int .i64))),(6,(.hole (.int .i64)))],bl:=[.var (.hole (.int .i64)),.row y5],ts:=[(.int .i64),(.int .i64),(.int .i64),(.slice y5)],pin:=1 }
abbrev Ze3:List (ETag × Shape):=[(.exit 0,{ sl:=[(0,(.sl 1)),(5,(.hole (.int .i64)))],bl:=[.var (.hole (.int .i64)),.row y5],ts:=[(.int .i64),(.int .i64),(.slice y5)],pin:=1 })]
def Z8f (x:(Int × Int × Int × List (T7))):Option ((Int × Int × Int × List (T7)) ⊕ (Int × Int × List (T7))) :=
 bif (decide (x.2.1 < (((List.length x.2.2.2):Nat):Int))) then
 bif (inb x.2.1 (List.length x.2.2.2)) then
 (Z6t ((getAt ((0:Int),(0:Int),(0:Int)) x.2.2.2 (toN x.2.1)),x.2.2.1)).bind fun r21 =>
 bif (Bool.not r21.1) then
 bif (inb x.1 (List.length x.2.2.2)) then
 some (.inl ((IntKind.wrap .i64 (x.1+(1:Int))),(IntKind.wrap .i64 (x.2.1+(1:Int))),x.2.2.1,(List.set x.2.2.2 (toN x.1) (getAt ((0:Int),(0:Int),(0:Int)) x.2.2.2 (toN x.2.1)))))
 else
 none
 else
 some (.inl (x.1,(IntKind.wrap .i64 (x.2.1+(1:Int))),x.2.2.1,x.2.2.2))
 else
 none
 else
 some (.inr (x.1,x.2.2.1,x.2.2.2))
def Zcp:Ctx:={ tb:=mkTb T2.tbl,fx:=[(163,[2000000,203],Zpm),(203,[],Spec.shpR Zin Zm8 Z6t)],sum:=[],nt:=42,pin:=1,nr:=true,ys:=[] }
theorem Z8g:CSound Tryz.prog ⟨42,1,true⟩ (.loop (loopOf 6 Tryz.f201)) (Yah Zey Ze3 (loop Z8f)) :=
 Y81 (C:=Zcp) (ctxOK mixed tbl_ok rfl ⟨Z6j,Z6v,trivial⟩ trivial) (SumOK.of trivial) Zey Ze3 rfl rfl Z8f (fun x=>by kernel_rfl)
abbrev Zib:Shape:={ sl:=[(0,(.sl 1)),(1,(.fn 203 .nil (.cons (.ptr 0 []) .nil)))],bl:=[.var (.hole (.int .i64)),.row y5],ts:=[(.int .i64),(.slice y5)],pin:=0 }
abbrev Zlw:Shape:={ sl:=sl_18,bl:=bl_3,ts:=ts_12,pin:=1 }
def Z66 (x:T13):Option T15 :=
 (Z6i (x.2,x.1)).bind fun r19 =>
 bif (r19.1 == (Int.negSucc 0)) then
 some (r19.2.1,r19.2.2)
 else
 (loop Z8f (r19.1,(IntKind.wrap .i64 (r19.1+(1:Int))),r19.2.2,r19.2.1)).bind fun r20 =>
 bif (sub3 r20.1 (((List.length r20.2.2):Nat):Int) (List.length r20.2.2)) then
 bif (sub3 (0:Int) r20.1 (List.length (over r20.2.2 (List.replicate ((toN (((List.length r20.2.2):Nat):Int)) - (toN r20.1)) ((0:Int),(0:Int),(0:Int))) (toN r20.1) ((toN (((List.length r20.2.2):Nat):Int)) - (toN r20.1))))) then
 some ((cut (over r20.2.2 (List.replicate ((toN (((List.length r20.2.2):Nat):Int)) - (toN r20.1)) ((0:Int),(0:Int),(0:Int))) (toN r20.1) ((toN (((List.length r20.2.2):Nat):Int)) - (toN r20.1))) (toN (0:Int)) ((toN r20.1) - (toN (0:Int)))),r20.2.1)
 else
 none
 else
 none
abbrev Zpg:=Spec.shp Zib Zlw Z66
def Zco:Ctx:={ tb:=mkTb T2.tbl,fx:=[(163,[2000000,203],Zpm),(203,[],Spec.shpR Zin Zm8 Z6t)],sum:=[(0,6,Yah Zey Ze3 (loop Z8f))],nt:=42,pin:=1,nr:=true,ys:=[] }
theorem Z67:Sound Tryz.prog 201 (Zpg) :=
 Sound.shp (C:=Zco) (fn:=Tryz.f201) (by kernel_rfl) (c:=bodyOf Tryz.f201) (by kernel_rfl) (by decide) (ctxOK mixed tbl_ok rfl ⟨Z6j,Z6v,trivial⟩ trivial) (SumOK.of ⟨(Yaj (d:=.loop (loopOf 6 Tryz.f201)) (by kernel_rfl) Z8g),trivial⟩) (by kernel_rfl) Zib Zlw rfl (by decide) (by decide) rfl (by decide) rfl Z66 (fun x=>by kernel_rfl)
abbrev Zim:Shape:={ sl:=sl_23,bl:=[],ts:=ts_12,pin:=0 }
abbrev Zm7:Shape:={ sl:=sl_23,bl:=[],ts:=ts_12,pin:=0 }
def Z6s (x:T15):Option T15 :=
 (Z74 x.1).bind fun r16 =>
 bif (Bool.not r16) then
 some (([]:List T7),(1:Int))
 else
 bif (decide (x.2 < (0:Int))) then
 some (([]:List T7),(1:Int))
 else
 (Z5m x.1).bind fun r17 =>
 (Z66 (x.2,r17)).bind fun r18 =>
 some (r18.1,(0:Int))
abbrev Zpr:=Spec.shp Zim Zm7 Z6s
def Zda:Ctx:={ tb:=mkTb T2.tbl,fx:=[(161,[],Zpw),(202,[],Zp6),(201,[2000000,203],Zpg)],sum:=[],nt:=17,pin:=0,nr:=true,ys:=[] }
theorem Z6w:Sound Tryz.prog 164 (Zpr) :=
 Sound.shp (C:=Zda) (fn:=Tryz.f164) (by kernel_rfl) (c:=bodyOf Tryz.f164) (by kernel_rfl) (by decide) (ctxOK mixed tbl_ok rfl ⟨Z77,Z5n,Z67,trivial⟩ trivial) (SumOK.of trivial) (by kernel_rfl) Zim Zm7 rfl (by decide) (by decide) rfl (by decide) rfl Z6s (fun x=>by kernel_rfl)
abbrev Zh0:Shape:={ sl:=[(0,(.hole y23))],bl:=[],ts:=[y23],pin:=0 }
abbrev Zkl:Shape:={ sl:=sl_1,bl:=[],ts:=ts_1,pin:=0 }
def Z3j (x:T29):Option (Bool) :=
 bif (decide (x.2.1 < (0:Int))) then
 some false
 else
 (Z74 x.2.2).bind fun r14 =>
 bif (Bool.not r14) then
 some false
 else
 bif (x.1 == (1:Int)) then
 (Z6s (x.2.2,x.2.1)).bind fun r15 =>
 some ((((List.length r15.1):Nat):Int) == (((List.length x.2.2):Nat):Int))
 else
 bif (x.1 == (0:Int)) then
 bif (x.2.1 == (0:Int)) then
 some ((((List.length x.2.2):Nat):Int) == (0:Int))
 else
 some false
 else
 bif (x.1 == (2:Int)) then
 bif (x.2.1 == (0:Int)) then
 some ((((List.length x.2.2):Nat):Int) == (0:Int))
 else
 some false
 else
 some false
abbrev Zo6:=Spec.shp Zh0 Zkl Z3j
def Zb4:Ctx:={ tb:=mkTb T2.tbl,fx:=[(161,[],Zpw),(164,[],Zpr)],sum:=[],nt:=44,pin:=0,nr:=true,ys:=[] }
theorem Z3k:Sound Tryz.prog 118 (Zo6) :=
 Sound.shp (C:=Zb4) (fn:=Tryz.f118) (by kernel_rfl) (c:=bodyOf Tryz.f118) (by kernel_rfl) (by decide) (ctxOK mixed tbl_ok rfl ⟨Z77,Z6w,trivial⟩ trivial) (SumOK.of trivial) (by kernel_rfl) Zh0 Zkl rfl (by decide) (by decide) rfl (by decide) rfl Z3j (fun x=>by kernel_rfl)
abbrev Zek:Shape:={ sl:=[(7,(.fn 114 .nil (.cons (.ptr 0 []) .nil))),(122,(.hole y26)),(123,(.hole (.int .i64))),(124,(.hole (.int .i64)))],bl:=bl_9,ts:=[y26,(.int .i64),(.int .i64),y45],pin:=0 }
abbrev Zdp:List (ETag × Shape):=[(.ret,{ sl:=[(2,(.hole .bool))],bl:=[],ts:=ts_1,pin:=0 }),(.exit 4,{ sl:=[],bl:=[],ts:=[],pin:=0 })]
def Z7m (x:(List T29 × Int × Int × (T47 × T61))):Option ((List T29 × Int × Int × (T47 × T61)) ⊕ ((Bool) ⊕ Unit)) :=
 bif (decide (x.2.2.1 < x.2.1)) then
 bif (inb x.2.2.1 (List.length x.1)) then
 (Z3j (getAt ((0:Int),(0:Int),([]:List T7)) x.1 (toN x.2.2.1))).bind fun r13 =>
 bif (Bool.not r13) then
 some (.inr (.inl false))
 else
 (Z1p ((7:Int),x.2.2.1,x.2.2.2)).bind fun r14 =>
 (Z5y ((getAt ((0:Int),(0:Int),([]:List T7)) x.1 (toN x.2.2.1)).2.2,r14.1,r14.2.1,r14.2.2)).bind fun r15 =>
 bif r15.1 then
 some (.inr (.inl false))
 else
 some (.inl (x.1,x.2.1,(IntKind.wrap .i64 (x.2.2.1+(1:Int))),r15.2.1))
 else
 none
 else
 some (.inr (.inr ()))
def Za1:Ctx:={ tb:=mkTb T2.tbl,fx:=[(38,[],Zod),(95,[107],Zp9),(112,[],Zml),(109,[],Zn8),(113,[110],Zpb),(117,[],Zmx),(114,[],Zna),(113,[115],Zpc),(118,[],Zo6)],sum:=[(0,8,Yah Zel Zdq (loop Z7o)),(0,16,Yah Zej Zdo (loop Z7k))],nt:=141,pin:=0,nr:=true,ys:=[] }
theorem Z7n:CSound Tryz.prog ⟨141,0,true⟩ (.loop (loopOf 22 Tryz.f57)) (Yah Zek Zdp (loop Z7m)) :=
 Y81 (C:=Za1) (ctxOK mixed tbl_ok rfl ⟨Z3z,Z5t,Zb,Z1o,Z5x,Z11,Z1s,Z5z,Z3k,trivial⟩ trivial) (SumOK.of ⟨(Yai (by kernel_rfl)),(Yai (by kernel_rfl)),trivial⟩) Zek Zdp rfl rfl Z7m (fun x=>by kernel_rfl)
abbrev Zg0:Shape:={ sl:=[(0,(.hole y45))],bl:=[],ts:=[y45],pin:=0 }
abbrev Zjl:Shape:={ sl:=sl_1,bl:=[],ts:=ts_1,pin:=0 }
def Z1i (x:T62):Option (Bool) :=
 (Z3y x.1).bind fun r6 =>
 bif (Bool.not r6) then
 some false
 else
 bif (decide ((((List.length x.2.1):Nat):Int) < (1:Int))) then
 some false
 else
 bif (decide ((((List.length x.2.1):Nat):Int) > (8:Int))) then
 some false
 else
 bif ((((List.length x.2.2.1):Nat):Int) != (((List.length x.1.1):Nat):Int)) then
 some false
 else
 bif ((((List.length x.2.2.2.1):Nat):Int) != x.1.2.1) then
 some false
 else
 bif ((((List.length x.2.2.2.2.1):Nat):Int) != x.1.2.2.1) then
 some false
 else
 bif (decide (x.2.2.2.2.2.1 < (0:Int))) then
 some false
 else
 (Z5s (x.2.1,x.1)).bind fun r7 =>
 bif r7.1 then
 some false
 else
 (loop Z7o (x.2.2.1,(((List.length x.2.2.1):Nat):Int),(0:Int),x,r7.2)).bind fun r8 =>
 match r8 with
 | .inl y9 =>
 some y9
 | .inr y9 =>
 (loop Z7k (y9.2.2.2.1,(((List.length y9.2.2.2.1):Nat):Int),(0:Int),y9)).bind fun r10 =>
 match r10 with
 | .inl y11 =>
 some y11
 | .inr y11 =>
 (loop Z7m (y11.2.2.2.2.1,(((List.length y11.2.2.2.2.1):Nat):Int),(0:Int),y11)).bind fun r12 =>
 match r12 with
 | .inl y13 =>
 some y13
 | .inr y13 =>
 some true
abbrev Zn6:=Spec.shp Zg0 Zjl Z1i
def Z9x:Ctx:={ tb:=mkTb T2.tbl,fx:=[(38,[],Zod),(95,[107],Zp9),(112,[],Zml),(109,[],Zn8),(113,[110],Zpb),(117,[],Zmx),(114,[],Zna),(113,[115],Zpc),(118,[],Zo6)],sum:=[(0,8,Yah Zel Zdq (loop Z7o)),(0,16,Yah Zej Zdo (loop Z7k)),(0,22,Yah Zek Zdp (loop Z7m))],nt:=141,pin:=0,nr:=true,ys:=[] }
theorem Z1t:Sound Tryz.prog 57 (Zn6) :=
 Sound.shp (C:=Z9x) (fn:=Tryz.f57) (by kernel_rfl) (c:=bodyOf Tryz.f57) (by kernel_rfl) (by decide) (ctxOK mixed tbl_ok rfl ⟨Z3z,Z5t,Zb,Z1o,Z5x,Z11,Z1s,Z5z,Z3k,trivial⟩ trivial) (SumOK.of ⟨(Yaj (d:=.loop (loopOf 8 Tryz.f57)) (by kernel_rfl) Z7p),(Yaj (d:=.loop (loopOf 16 Tryz.f57)) (by kernel_rfl) Z7l),(Yaj (d:=.loop (loopOf 22 Tryz.f57)) (by kernel_rfl) Z7n),trivial⟩) (by kernel_rfl) Zg0 Zjl rfl (by decide) (by decide) rfl (by decide) rfl Z1i (fun x=>by kernel_rfl)
abbrev Zfk:Shape:={ sl:=sl_15,bl:=bl_12,ts:=[y42],pin:=0 }
abbrev Zj5:Shape:={ sl:=sl_1,bl:=bl_12,ts:=[.bool,y42],pin:=1 }
def Zl (x:(T46)):Option (Bool × T46) :=
 some ((decide (x.1.1 < (0:Int))),x)
abbrev Zmq:=Spec.shp Zfk Zj5 Zl
def Z9e:Ctx:={ tb:=mkTb T2.tbl,fx:=[],sum:=[],nt:=9,pin:=1,nr:=true,ys:=[] }
theorem Zm:Sound Tryz.prog 165 (Zmq) :=
 Sound.shp (C:=Z9e) (fn:=Tryz.f165) (by kernel_rfl) (c:=bodyOf Tryz.f165) (by kernel_rfl) (by decide) (ctxOK mixed tbl_ok rfl trivial trivial) (SumOK.of trivial) (by kernel_rfl) Zfk Zj5 rfl (by decide) (by decide) rfl (by decide) rfl Zl (fun x=>by kernel_rfl)
theorem Zn:Sound Tryz.prog 165 (Spec.shpR Zfk Zj5 Zl) :=
 Sound.shpR (fun x y h=>by have h:=Option.some.inj h; subst h; rfl) Zm
abbrev Zfj:Shape:={ sl:=sl_15,bl:=bl_12,ts:=[y42],pin:=0 }
abbrev Zj4:Shape:={ sl:=sl_1,bl:=bl_12,ts:=[.bool,y42],pin:=1 }
def Zi (x:(T46)):Option (Bool × T46) :=
 some ((x.1.2.2.1.2.2.2 == x.1.2.2.1.1),x)
abbrev Zmp:=Spec.shp Zfj Zj4 Zi
def Z9d:Ctx:={ tb:=mkTb T2.tbl,fx:=[],sum:=[],nt:=16,pin:=1,nr:=true,ys:=[] }
theorem Zj:Sound Tryz.prog 166 (Zmp) :=
 Sound.shp (C:=Z9d) (fn:=Tryz.f166) (by kernel_rfl) (c:=bodyOf Tryz.f166) (by kernel_rfl) (by decide) (ctxOK mixed tbl_ok rfl trivial trivial) (SumOK.of trivial) (by kernel_rfl) Zfj Zj4 rfl (by decide) (by decide) rfl (by decide) rfl Zi (fun x=>by kernel_rfl)
theorem Zk:Sound Tryz.prog 166 (Spec.shpR Zfj Zj4 Zi) :=
 Sound.shpR (fun x y h=>by have h:=Option.some.inj h; subst h; rfl) Zj
abbrev Zip:Shape:={ sl:=[(0,(.hole y5)),(1,(.ptr 0 []))],bl:=bl_3,ts:=[y5,(.int .i64)],pin:=0 }
abbrev Zma:Shape:={ sl:=sl_1,bl:=bl_3,ts:=[.bool,(.int .i64)],pin:=1 }
def Z6y (x:(T7 × Int)):Option T0 :=
 some ((x.1.1 != x.2),x.2)
abbrev Zpu:=Spec.shp Zip Zma Z6y
def Zdd:Ctx:={ tb:=mkTb T2.tbl,fx:=[],sum:=[],nt:=8,pin:=1,nr:=true,ys:=[] }
theorem Z6z:Sound Tryz.prog 233 (Zpu) :=
 Sound.shp (C:=Zdd) (fn:=Tryz.f233) (by kernel_rfl) (c:=bodyOf Tryz.f233) (by kernel_rfl) (by decide) (ctxOK mixed tbl_ok rfl trivial trivial) (SumOK.of trivial) (by kernel_rfl) Zip Zma rfl (by decide) (by decide) rfl (by decide) rfl Z6y (fun x=>by kernel_rfl)
theorem Z70:Sound Tryz.prog 233 (Spec.shpR Zip Zma Z6y) :=
 Sound.shpR (fun x y h=>by have h:=Option.some.inj h; subst h; rfl) Z6z
abbrev Zf5:Shape:={ sl:=[(0,(.hole (.slice y5))),(1,(.fn 233 .nil (.cons (.ptr 0 []) .nil))),(7,(.hole (.int .i64))),(8,(.hole (.int .i64)))],bl:=bl_3,ts:=[(.slice y5),(.int .i64),(.int .i64),(.int .i64)],pin:=1 }
abbrev Zea:List (ETag × Shape):=[(.ret,{ sl:=sl_3,bl:=bl_3,ts:=ts_5,pin:=1 }),(.exit 0,{ sl:=[],bl:=bl_3,ts:=ts_2,pin:=1 })]
def Z8t (x:(List (T7) × Int × Int × Int)):Option ((List (T7) × Int × Int × Int) ⊕ ((Int × Int) ⊕ (Int))) :=
 bif (decide (x.2.2.1 < x.2.1)) then
 bif (inb x.2.2.1 (List.length x.1)) then
 (Z6y ((getAt ((0:Int),(0:Int),(0:Int)) x.1 (toN x.2.2.1)),x.2.2.2)).bind fun r18 =>
 bif r18.1 then
 some (.inr (.inl (x.2.2.1,x.2.2.2)))
 else
 some (.inl (x.1,x.2.1,(IntKind.wrap .i64 (x.2.2.1+(1:Int))),x.2.2.2))
 else
 none
 else
 some (.inr (.inr x.2.2.2))
def Zd3:Ctx:={ tb:=mkTb T2.tbl,fx:=[(233,[],Spec.shpR Zip Zma Z6y)],sum:=[],nt:=19,pin:=1,nr:=true,ys:=[] }
theorem Z8u:CSound Tryz.prog ⟨19,1,true⟩ (.loop (loopOf 3 Tryz.f163)) (Yah Zf5 Zea (loop Z8t)) :=
 Y81 (C:=Zd3) (ctxOK mixed tbl_ok rfl ⟨Z70,trivial⟩ trivial) (SumOK.of trivial) Zf5 Zea rfl rfl Z8t (fun x=>by kernel_rfl)
abbrev Zii:Shape:={ sl:=[(0,(.hole (.slice y5))),(1,(.fn 233 .nil (.cons (.ptr 0 []) .nil)))],bl:=bl_3,ts:=ts_12,pin:=0 }
abbrev Zm3:Shape:={ sl:=sl_2,bl:=bl_3,ts:=ts_5,pin:=1 }
def Z6k (x:T15):Option (Int × Int) :=
 (loop Z8t (x.1,(((List.length x.1):Nat):Int),(0:Int),x.2)).bind fun r17 =>
 match r17 with
 | .inl y18 =>
 some (y18.1,y18.2)
 | .inr y18 =>
 some ((Int.negSucc 0),y18)
abbrev Zpn:=Spec.shp Zii Zm3 Z6k
def Zd2:Ctx:={ tb:=mkTb T2.tbl,fx:=[(233,[],Spec.shpR Zip Zma Z6y)],sum:=[(0,3,Yah Zf5 Zea (loop Z8t))],nt:=19,pin:=1,nr:=true,ys:=[] }
theorem Z6l:Sound Tryz.prog 163 (Zpn) :=
 Sound.shp (C:=Zd2) (fn:=Tryz.f163) (by kernel_rfl) (c:=bodyOf Tryz.f163) (by kernel_rfl) (by decide) (ctxOK mixed tbl_ok rfl ⟨Z70,trivial⟩ trivial) (SumOK.of ⟨(Yaj (d:=.loop (loopOf 3 Tryz.f163)) (by kernel_rfl) Z8u),trivial⟩) (by kernel_rfl) Zii Zm3 rfl (by decide) (by decide) rfl (by decide) rfl Z6k (fun x=>by kernel_rfl)
abbrev Zio:Shape:={ sl:=sl_23,bl:=[],ts:=ts_12,pin:=0 }
abbrev Zm9:Shape:={ sl:=[(0,(.hole y5)),(1,(.hole (.int .i64)))],bl:=[],ts:=[y5,(.int .i64)],pin:=0 }
def Z6x (x:T15):Option (T7 × Int) :=
 (Z74 x.1).bind fun r15 =>
 bif (Bool.not r15) then
 some (((0:Int),(0:Int),(0:Int)),(1:Int))
 else
 bif (decide (x.2 < (0:Int))) then
 some (((0:Int),(0:Int),(0:Int)),(1:Int))
 else
 (Z6k (x.1,x.2)).bind fun r16 =>
 bif (decide (r16.1 < (0:Int))) then
 some (((0:Int),(0:Int),(0:Int)),(4:Int))
 else
 bif (inb r16.1 (List.length x.1)) then
 some ((getAt ((0:Int),(0:Int),(0:Int)) x.1 (toN r16.1)),(0:Int))
 else
 none
abbrev Zpt:=Spec.shp Zio Zm9 Z6x
def Zdc:Ctx:={ tb:=mkTb T2.tbl,fx:=[(161,[],Zpw),(163,[233],Zpn)],sum:=[],nt:=25,pin:=0,nr:=true,ys:=[] }
theorem Z71:Sound Tryz.prog 204 (Zpt) :=
 Sound.shp (C:=Zdc) (fn:=Tryz.f204) (by kernel_rfl) (c:=bodyOf Tryz.f204) (by kernel_rfl) (by decide) (ctxOK mixed tbl_ok rfl ⟨Z77,Z6l,trivial⟩ trivial) (SumOK.of trivial) (by kernel_rfl) Zio Zm9 rfl (by decide) (by decide) rfl (by decide) rfl Z6x (fun x=>by kernel_rfl)
abbrev Zfm:Shape:={ sl:=[(0,(.ptr 0 [])),(1,(.hole (.slice y5)))],bl:=bl_12,ts:=[(.slice y5),y42],pin:=0 }
abbrev Zj7:Shape:={ sl:=sl_17,bl:=bl_12,ts:=[y5,y42],pin:=1 }
def Zq (x:(List (T7) × T46)):Option (T7 × T46) :=
 (Z6x (x.1,x.2.2)).bind fun r14 =>
 bif (r14.2 != (0:Int)) then
 bif ((r14.1.1 == ((0:Int),(0:Int),(0:Int)).1) && ((r14.1.2.1 == ((0:Int),(0:Int),(0:Int)).2.1) && (r14.1.2.2 == ((0:Int),(0:Int),(0:Int)).2.2))) then
 some (((Int.negSucc 0),(0:Int),(0:Int)),x.2)
 else
 some (r14.1,x.2)
 else
 some (r14.1,x.2)
abbrev Zms:=Spec.shp Zfm Zj7 Zq
def Z9g:Ctx:={ tb:=mkTb T2.tbl,fx:=[(204,[],Zpt)],sum:=[],nt:=27,pin:=1,nr:=true,ys:=[] }
theorem Zr:Sound Tryz.prog 167 (Zms) :=
 Sound.shp (C:=Z9g) (fn:=Tryz.f167) (by kernel_rfl) (c:=bodyOf Tryz.f167) (by kernel_rfl) (by decide) (ctxOK mixed tbl_ok rfl ⟨Z71,trivial⟩ trivial) (SumOK.of trivial) (by kernel_rfl) Zfm Zj7 rfl (by decide) (by decide) rfl (by decide) rfl Zq (fun x=>by kernel_rfl)
abbrev Zfd:Shape:={ sl:=[(0,(.hole y40)),(1,(.hole .bool)),(2,(.hole (.int .i64)))],bl:=[],ts:=[y40,.bool,(.int .i64)],pin:=0 }
abbrev Ziy:Shape:={ sl:=[(0,(.hole .bool)),(1,(.hole (.int .i64)))],bl:=[],ts:=[.bool,(.int .i64)],pin:=0 }
def Z6 (x:((Int × T40) × Bool × Int)):Option T0 :=
 (Za x.1).bind fun r10 =>
 bif (Bool.not r10) then
 some (false,(1:Int))
 else
 bif (decide (x.2.2 < (0:Int))) then
 some (false,(1:Int))
 else
 (Zl (x.1,x.2.2)).bind fun r11 =>
 bif r11.1 then
 some (false,(0:Int))
 else
 bif x.1.2.1 then
 some (true,(0:Int))
 else
 bif x.2.1 then
 (Zi (x.1,x.2.2)).bind fun r12 =>
 bif (Bool.not r12.1) then
 some (true,(0:Int))
 else
 (Zq (x.1.2.2.2.2.2.2,x.1,x.2.2)).bind fun r13 =>
 some ((r13.1.1 != (Int.negSucc 0)),(0:Int))
 else
 bif (decide (x.1.2.2.1.2.2.2 > (0:Int))) then
 some (true,(0:Int))
 else
 (Zq (x.1.2.2.2.2.2.1,x.1,x.2.2)).bind fun r12 =>
 some ((r12.1.1 != (Int.negSucc 0)),(0:Int))
abbrev Zmj:=Spec.shp Zfd Ziy Z6
def Z96:Ctx:={ tb:=mkTb T2.tbl,fx:=[(112,[],Zml),(165,[],Spec.shpR Zfk Zj5 Zl),(166,[],Spec.shpR Zfj Zj4 Zi),(167,[],Zms)],sum:=[],nt:=63,pin:=0,nr:=true,ys:=[] }
theorem Z7:Sound Tryz.prog 119 (Zmj) :=
 Sound.shp (C:=Z96) (fn:=Tryz.f119) (by kernel_rfl) (c:=bodyOf Tryz.f119) (by kernel_rfl) (by decide) (ctxOK mixed tbl_ok rfl ⟨Zb,Zn,Zk,Zr,trivial⟩ trivial) (SumOK.of trivial) (by kernel_rfl) Zfd Ziy rfl (by decide) (by decide) rfl (by decide) rfl Z6 (fun x=>by kernel_rfl)
abbrev Zei:Shape:={ sl:=[(1,(.hole (.int .i64))),(2,(.ptr 0 [])),(7,(.sl 1)),(38,(.hole (.slice y2))),(39,(.hole (.int .i64))),(40,(.hole (.int .i64)))],bl:=bl_13,ts:=ts_13,pin:=0 }
abbrev Zdn:List (ETag × Shape):=[(.exit 0,{ sl:=[(7,(.sl 0))],bl:=[.row y4],ts:=[(.slice y4)],pin:=0 })]
def Z7i (x:T68):Option (T68 ⊕ (T6)) :=
 bif (decide (x.2.2.2.1 < x.2.2.1)) then
 bif (inb x.2.2.2.1 (List.length x.2.1)) then
 bif (inb (getAt (false,(0:Int)) x.2.1 (toN x.2.2.2.1)).2 (List.length x.2.2.2.2.1.2.2.1)) then
 (Z6 ((getAt ((0:Int),false,((0:Int),(0:Int),([]:List Int),(0:Int)),(0:Int),(0:Int),([]:List T7),([]:List T7)) x.2.2.2.2.1.2.2.1 (toN (getAt (false,(0:Int)) x.2.1 (toN x.2.2.2.1)).2)),(getAt (false,(0:Int)) x.2.1 (toN x.2.2.2.1)).1,x.1)).bind fun r9 =>
 bif r9.1 then
 bif (fits ((List.length x.2.2.2.2.2)+(List.length ((x.1,x.2.2.2.1) :: ([]:List (Int × Int)))))) then
 some (.inl (x.1,x.2.1,x.2.2.1,(IntKind.wrap .i64 (x.2.2.2.1+(1:Int))),x.2.2.2.2.1,(x.2.2.2.2.2++((x.1,x.2.2.2.1) :: ([]:List (Int × Int))))))
 else
 none
 else
 some (.inl (x.1,x.2.1,x.2.2.1,(IntKind.wrap .i64 (x.2.2.2.1+(1:Int))),x.2.2.2.2.1,x.2.2.2.2.2))
 else
 none
 else
 none
 else
 some (.inr x.2.2.2.2.2)
def Z9w:Ctx:={ tb:=mkTb T2.tbl,fx:=[(119,[],Zmj)],sum:=[],nt:=67,pin:=0,nr:=true,ys:=[] }
theorem Z7j:CSound Tryz.prog ⟨67,0,true⟩ (.loop (loopOf 8 Tryz.f58)) (Yah Zei Zdn (loop Z7i)) :=
 Y81 (C:=Z9w) (ctxOK mixed tbl_ok rfl ⟨Z7,trivial⟩ trivial) (SumOK.of trivial) Zei Zdn rfl rfl Z7i (fun x=>by kernel_rfl)
abbrev Zfz:Shape:={ sl:=[(0,(.hole y45)),(1,(.hole (.int .i64)))],bl:=[],ts:=[y45,(.int .i64)],pin:=0 }
abbrev Zjk:Shape:={ sl:=[(0,(.hole (.slice y4)))],bl:=[],ts:=[(.slice y4)],pin:=0 }
def Z1g (x:((T47 × T61) × Int)):Option T6 :=
 bif (inb x.2 (List.length x.1.2.1)) then
 bif (inb (getAt ((0:Int),(0:Int),(0:Int),false) x.1.2.1 (toN x.2)).1 (List.length x.1.1.2.2.2.2.2)) then
 bif (inb (getAt ((0:Int),(0:Int),(0:Int),false) x.1.2.1 (toN x.2)).2.1 (List.length (getAt ([]:List T7) x.1.1.2.2.2.2.2 (toN (getAt ((0:Int),(0:Int),(0:Int),false) x.1.2.1 (toN x.2)).1)))) then
 bif ((getAt ((0:Int),(0:Int),(0:Int)) (getAt ([]:List T7) x.1.1.2.2.2.2.2 (toN (getAt ((0:Int),(0:Int),(0:Int),false) x.1.2.1 (toN x.2)).1)) (toN (getAt ((0:Int),(0:Int),(0:Int),false) x.1.2.1 (toN x.2)).2.1)).1 != (4:Int)) then
 some ([]:List (Int × Int))
 else
 bif (inb (getAt ((0:Int),(0:Int),(0:Int)) (getAt ([]:List T7) x.1.1.2.2.2.2.2 (toN (getAt ((0:Int),(0:Int),(0:Int),false) x.1.2.1 (toN x.2)).1)) (toN (getAt ((0:Int),(0:Int),(0:Int),false) x.1.2.1 (toN x.2)).2.1)).2.1 (List.length x.1.1.2.2.2.2.1)) then
 (loop Z7i (x.2,(getAt (([]:List T0),false) x.1.1.2.2.2.2.1 (toN (getAt ((0:Int),(0:Int),(0:Int)) (getAt ([]:List T7) x.1.1.2.2.2.2.2 (toN (getAt ((0:Int),(0:Int),(0:Int),false) x.1.2.1 (toN x.2)).1)) (toN (getAt ((0:Int),(0:Int),(0:Int),false) x.1.2.1 (toN x.2)).2.1)).2.1)).1,(((List.length (getAt (([]:List T0),false) x.1.1.2.2.2.2.1 (toN (getAt ((0:Int),(0:Int),(0:Int)) (getAt ([]:List T7) x.1.1.2.2.2.2.2 (toN (getAt ((0:Int),(0:Int),(0:Int),false) x.1.2.1 (toN x.2)).1)) (toN (getAt ((0:Int),(0:Int),(0:Int),false) x.1.2.1 (toN x.2)).2.1)).2.1)).1):Nat):Int),(0:Int),x.1,([]:List (Int × Int)))).bind fun r8 =>
 some r8
 else
 none
 else
 none
 else
 none
 else
 none
abbrev Zn5:=Spec.shp Zfz Zjk Z1g
def Z9v:Ctx:={ tb:=mkTb T2.tbl,fx:=[(119,[],Zmj)],sum:=[(0,8,Yah Zei Zdn (loop Z7i))],nt:=67,pin:=0,nr:=true,ys:=[] }
theorem Z1h:Sound Tryz.prog 58 (Zn5) :=
 Sound.shp (C:=Z9v) (fn:=Tryz.f58) (by kernel_rfl) (c:=bodyOf Tryz.f58) (by kernel_rfl) (by decide) (ctxOK mixed tbl_ok rfl ⟨Z7,trivial⟩ trivial) (SumOK.of ⟨(Yaj (d:=.loop (loopOf 8 Tryz.f58)) (by kernel_rfl) Z7j),trivial⟩) (by kernel_rfl) Zfz Zjk rfl (by decide) (by decide) rfl (by decide) rfl Z1g (fun x=>by kernel_rfl)
abbrev Zeg:Shape:={ sl:=[(1,(.ptr 0 [])),(3,(.sl 1)),(16,(.hole y18)),(17,(.hole (.int .i64))),(18,(.hole (.int .i64)))],bl:=bl_13,ts:=[y18,(.int .i64),(.int .i64),y45,(.slice y4)],pin:=0 }
abbrev Zdl:List (ETag × Shape):=[(.exit 0,{ sl:=[(3,(.sl 0))],bl:=[.row y4],ts:=[(.slice y4)],pin:=0 })]
def Z7e (x:T67):Option (T67 ⊕ (T6)) :=
 bif (decide (x.2.2.1 < x.2.1)) then
 bif (inb x.2.2.1 (List.length x.1)) then
 bif ((getAt ((0:Int),(0:Int),(0:Int),false) x.1 (toN x.2.2.1)).2.2.1 != (0:Int)) then
 some (.inl (x.1,x.2.1,(IntKind.wrap .i64 (x.2.2.1+(1:Int))),x.2.2.2.1,x.2.2.2.2))
 else
 (Z1g (x.2.2.2.1,x.2.2.1)).bind fun r7 =>
 bif ((((List.length r7):Nat):Int) == (0:Int)) then
 bif (fits ((List.length x.2.2.2.2)+(List.length ((x.2.2.1,(Int.negSucc 0)) :: ([]:List (Int × Int)))))) then
 some (.inl (x.1,x.2.1,(IntKind.wrap .i64 (x.2.2.1+(1:Int))),x.2.2.2.1,(x.2.2.2.2++((x.2.2.1,(Int.negSucc 0)) :: ([]:List (Int × Int))))))
 else
 none
 else
 bif (fits ((List.length x.2.2.2.2)+(List.length r7))) then
 some (.inl (x.1,x.2.1,(IntKind.wrap .i64 (x.2.2.1+(1:Int))),x.2.2.2.1,(x.2.2.2.2++r7)))
 else
 none
 else
 none
 else
 some (.inr x.2.2.2.2)
def Z9p:Ctx:={ tb:=mkTb T2.tbl,fx:=[(57,[],Zn6),(58,[],Zn5)],sum:=[],nt:=40,pin:=0,nr:=true,ys:=[] }
theorem Z7f:CSound Tryz.prog ⟨40,0,true⟩ (.loop (loopOf 6 Tryz.f22)) (Yah Zeg Zdl (loop Z7e)) :=
 Y81 (C:=Z9p) (ctxOK mixed tbl_ok rfl ⟨Z1t,Z1h,trivial⟩ trivial) (SumOK.of trivial) Zeg Zdl rfl rfl Z7e (fun x=>by kernel_rfl)
abbrev Zfu:Shape:={ sl:=[(0,(.hole y45))],bl:=[],ts:=[y45],pin:=0 }
abbrev Zjf:Shape:={ sl:=[(0,(.hole (.slice y4)))],bl:=[],ts:=[(.slice y4)],pin:=0 }
def Z16 (x:T62):Option T6 :=
 (Z1i x).bind fun r5 =>
 bif (Bool.not r5) then
 some ([]:List (Int × Int))
 else
 bif (x.2.2.2.2.2.2 != (0:Int)) then
 some ([]:List (Int × Int))
 else
 (loop Z7e (x.2.1,(((List.length x.2.1):Nat):Int),(0:Int),x,([]:List (Int × Int)))).bind fun r6 =>
 some r6
abbrev Zn0:=Spec.shp Zfu Zjf Z16
def Z9o:Ctx:={ tb:=mkTb T2.tbl,fx:=[(57,[],Zn6),(58,[],Zn5)],sum:=[(0,6,Yah Zeg Zdl (loop Z7e))],nt:=40,pin:=0,nr:=true,ys:=[] }
theorem Z17:Sound Tryz.prog 22 (Zn0) :=
 Sound.shp (C:=Z9o) (fn:=Tryz.f22) (by kernel_rfl) (c:=bodyOf Tryz.f22) (by kernel_rfl) (by decide) (ctxOK mixed tbl_ok rfl ⟨Z1t,Z1h,trivial⟩ trivial) (SumOK.of ⟨(Yaj (d:=.loop (loopOf 6 Tryz.f22)) (by kernel_rfl) Z7f),trivial⟩) (by kernel_rfl) Zfu Zjf rfl (by decide) (by decide) rfl (by decide) rfl Z16 (fun x=>by kernel_rfl)
abbrev Zf8:Shape:={ sl:=[(0,(.hole (.slice y4))),(3,(.ptr 0 [])),(7,(.hole (.int .i64))),(8,(.hole (.int .i64)))],bl:=[.var (.hole y4)],ts:=[(.slice y4),(.int .i64),(.int .i64),y4],pin:=0 }
abbrev Zed:List (ETag × Shape):=[(.ret,{ sl:=sl_3,bl:=[],ts:=ts_2,pin:=0 }),(.exit 0,{ sl:=[],bl:=[],ts:=[],pin:=0 })]
def Z8z (x:T11):Option (T11 ⊕ ((Int) ⊕ Unit)) :=
 bif (decide (x.2.2.1 < x.2.1)) then
 bif (inb x.2.2.1 (List.length x.1)) then
 bif ((x.2.2.2.1 == (getAt ((0:Int),(0:Int)) x.1 (toN x.2.2.1)).1) && (x.2.2.2.2 == (getAt ((0:Int),(0:Int)) x.1 (toN x.2.2.1)).2)) then
 some (.inr (.inl x.2.2.1))
 else
 some (.inl (x.1,x.2.1,(IntKind.wrap .i64 (x.2.2.1+(1:Int))),x.2.2.2))
 else
 none
 else
 some (.inr (.inr ()))
def Zd9:Ctx:={ tb:=mkTb T2.tbl,fx:=[],sum:=[],nt:=19,pin:=0,nr:=true,ys:=[] }
theorem Z90:CSound Tryz.prog ⟨19,0,true⟩ (.loop (loopOf 3 Tryz.f84)) (Yah Zf8 Zed (loop Z8z)) :=
 Y81 (C:=Zd9) (ctxOK mixed tbl_ok rfl trivial trivial) (SumOK.of trivial) Zf8 Zed rfl rfl Z8z (fun x=>by kernel_rfl)
abbrev Zil:Shape:={ sl:=sl_24,bl:=[],ts:=[(.slice y4),y4],pin:=0 }
abbrev Zm6:Shape:={ sl:=sl_2,bl:=[],ts:=ts_2,pin:=0 }
def Z6q (x:(List (Int × Int) × (Int × Int))):Option (Int) :=
 (loop Z8z (x.1,(((List.length x.1):Nat):Int),(0:Int),x.2)).bind fun r9 =>
 match r9 with
 | .inl y10 =>
 some y10
 | .inr y10 =>
 some (Int.negSucc 0)
abbrev Zpq:=Spec.shp Zil Zm6 Z6q
def Zd8:Ctx:={ tb:=mkTb T2.tbl,fx:=[],sum:=[(0,3,Yah Zf8 Zed (loop Z8z))],nt:=19,pin:=0,nr:=true,ys:=[] }
theorem Z6r:Sound Tryz.prog 84 (Zpq) :=
 Sound.shp (C:=Zd8) (fn:=Tryz.f84) (by kernel_rfl) (c:=bodyOf Tryz.f84) (by kernel_rfl) (by decide) (ctxOK mixed tbl_ok rfl trivial trivial) (SumOK.of ⟨(Yaj (d:=.loop (loopOf 3 Tryz.f84)) (by kernel_rfl) Z90),trivial⟩) (by kernel_rfl) Zil Zm6 rfl (by decide) (by decide) rfl (by decide) rfl Z6q (fun x=>by kernel_rfl)
abbrev Zia:Shape:={ sl:=sl_24,bl:=[],ts:=[(.slice y4),y4],pin:=0 }
abbrev Zlv:Shape:={ sl:=sl_1,bl:=[],ts:=ts_1,pin:=0 }
def Z64 (x:(List (Int × Int) × (Int × Int))):Option (Bool) :=
 (Z6q (x.1,x.2)).bind fun r8 =>
 some (decide (r8 ≥ (0:Int)))
abbrev Zpf:=Spec.shp Zia Zlv Z64
def Zcn:Ctx:={ tb:=mkTb T2.tbl,fx:=[(84,[],Zpq)],sum:=[],nt:=9,pin:=0,nr:=true,ys:=[] }
theorem Z65:Sound Tryz.prog 59 (Zpf) :=
 Sound.shp (C:=Zcn) (fn:=Tryz.f59) (by kernel_rfl) (c:=bodyOf Tryz.f59) (by kernel_rfl) (by decide) (ctxOK mixed tbl_ok rfl ⟨Z6r,trivial⟩ trivial) (SumOK.of trivial) (by kernel_rfl) Zia Zlv rfl (by decide) (by decide) rfl (by decide) rfl Z64 (fun x=>by kernel_rfl)
abbrev Zhy:Shape:={ sl:=[(0,(.hole y18))],bl:=[],ts:=[y18],pin:=0 }
abbrev Zlj:Shape:={ sl:=[(0,(.sl 0))],bl:=[.row y12],ts:=[y18],pin:=0 }
def Z5g (x:(List (T17))):Option (List (T17)) :=
 bif (@Nat.beq (List.length x) (0:Nat)) then
 amb (
 some ([]:List T17)) (
 bif (fits ((List.length ([]:List T17))+(List.length x))) then
 some (([]:List T17)++x)
 else
 none)
 else
 bif (fits ((List.length ([]:List T17))+(List.length x))) then
 some (([]:List T17)++x)
 else
 none
abbrev Zp3:=Spec.shp Zhy Zlj Z5g
def Zcb:Ctx:={ tb:=mkTb T2.tbl,fx:=[],sum:=[],nt:=8,pin:=0,nr:=true,ys:=[] }
theorem Z5h:Sound Tryz.prog 60 (Zp3) :=
 Sound.shp (C:=Zcb) (fn:=Tryz.f60) (by kernel_rfl) (c:=bodyOf Tryz.f60) (by kernel_rfl) (by decide) (ctxOK mixed tbl_ok rfl trivial trivial) (SumOK.of trivial) (by kernel_rfl) Zhy Zlj rfl (by decide) (by decide) rfl (by decide) rfl Z5g (fun x=>by kernel_rfl)
abbrev Zhx:Shape:={ sl:=[(0,(.hole y41))],bl:=[],ts:=[y41],pin:=0 }
abbrev Zli:Shape:={ sl:=[(0,(.sl 0))],bl:=[.row y40],ts:=[y41],pin:=0 }
def Z5e (x:(List T43)):Option (List T43) :=
 bif (@Nat.beq (List.length x) (0:Nat)) then
 amb (
 some ([]:List (Int × T41))) (
 bif (fits ((List.length ([]:List (Int × T41)))+(List.length x))) then
 some (([]:List (Int × T41))++x)
 else
 none)
 else
 bif (fits ((List.length ([]:List (Int × T41)))+(List.length x))) then
 some (([]:List (Int × T41))++x)
 else
 none
abbrev Zp2:=Spec.shp Zhx Zli Z5e
def Zca:Ctx:={ tb:=mkTb T2.tbl,fx:=[],sum:=[],nt:=8,pin:=0,nr:=true,ys:=[] }
theorem Z5f:Sound Tryz.prog 61 (Zp2) :=
 Sound.shp (C:=Zca) (fn:=Tryz.f61) (by kernel_rfl) (c:=bodyOf Tryz.f61) (by kernel_rfl) (by decide) (ctxOK mixed tbl_ok rfl trivial trivial) (SumOK.of trivial) (by kernel_rfl) Zhx Zli rfl (by decide) (by decide) rfl (by decide) rfl Z5e (fun x=>by kernel_rfl)
abbrev Zhz:Shape:={ sl:=[(0,(.hole y19))],bl:=[],ts:=[y19],pin:=0 }
abbrev Zlk:Shape:={ sl:=[(0,(.sl 0))],bl:=[.row y15],ts:=[y19],pin:=0 }
def Z5i (x:(List (T18))):Option (List (T18)) :=
 bif (@Nat.beq (List.length x) (0:Nat)) then
 amb (
 some ([]:List T22)) (
 bif (fits ((List.length ([]:List T22))+(List.length x))) then
 some (([]:List T22)++x)
 else
 none)
 else
 bif (fits ((List.length ([]:List T22))+(List.length x))) then
 some (([]:List T22)++x)
 else
 none
abbrev Zp4:=Spec.shp Zhz Zlk Z5i
def Zcc:Ctx:={ tb:=mkTb T2.tbl,fx:=[],sum:=[],nt:=8,pin:=0,nr:=true,ys:=[] }
theorem Z5j:Sound Tryz.prog 62 (Zp4) :=
 Sound.shp (C:=Zcc) (fn:=Tryz.f62) (by kernel_rfl) (c:=bodyOf Tryz.f62) (by kernel_rfl) (by decide) (ctxOK mixed tbl_ok rfl trivial trivial) (SumOK.of trivial) (by kernel_rfl) Zhz Zlk rfl (by decide) (by decide) rfl (by decide) rfl Z5i (fun x=>by kernel_rfl)
abbrev Zi0:Shape:={ sl:=[(0,(.hole y26))],bl:=[],ts:=[y26],pin:=0 }
abbrev Zll:Shape:={ sl:=[(0,(.sl 0))],bl:=[.row y23],ts:=[y26],pin:=0 }
def Z5k (x:(List T29)):Option (List T29) :=
 bif (@Nat.beq (List.length x) (0:Nat)) then
 amb (
 some ([]:List (Int × T14))) (
 bif (fits ((List.length ([]:List (Int × T14)))+(List.length x))) then
 some (([]:List (Int × T14))++x)
 else
 none)
 else
 bif (fits ((List.length ([]:List (Int × T14)))+(List.length x))) then
 some (([]:List (Int × T14))++x)
 else
 none
abbrev Zp5:=Spec.shp Zi0 Zll Z5k
def Zcd:Ctx:={ tb:=mkTb T2.tbl,fx:=[],sum:=[],nt:=8,pin:=0,nr:=true,ys:=[] }
theorem Z5l:Sound Tryz.prog 63 (Zp5) :=
 Sound.shp (C:=Zcd) (fn:=Tryz.f63) (by kernel_rfl) (c:=bodyOf Tryz.f63) (by kernel_rfl) (by decide) (ctxOK mixed tbl_ok rfl trivial trivial) (SumOK.of trivial) (by kernel_rfl) Zi0 Zll rfl (by decide) (by decide) rfl (by decide) rfl Z5k (fun x=>by kernel_rfl)
abbrev Zgc:Shape:={ sl:=sl_25,bl:=bl_2,ts:=ts_10,pin:=0 }
abbrev Zjx:Shape:={ sl:=sl_17,bl:=bl_2,ts:=[y5,y39,y4,y18,y41,y19,y26,y27],pin:=1 }
def Z26 (x:T58):Option (T7 × T47 × (Int × Int) × List (T17) × List T43 × List (T18) × List T29 × List (T20)) :=
 bif (inb x.1 (List.length x.2.2.2.1)) then
 bif (inb (getAt ((0:Int),(0:Int),(0:Int),false) x.2.2.2.1 (toN x.1)).1 (List.length x.2.1.2.2.2.2.2)) then
 bif (inb (getAt ((0:Int),(0:Int),(0:Int),false) x.2.2.2.1 (toN x.1)).2.1 (List.length (getAt ([]:List T7) x.2.1.2.2.2.2.2 (toN (getAt ((0:Int),(0:Int),(0:Int),false) x.2.2.2.1 (toN x.1)).1)))) then
 some ((getAt ((0:Int),(0:Int),(0:Int)) (getAt ([]:List T7) x.2.1.2.2.2.2.2 (toN (getAt ((0:Int),(0:Int),(0:Int),false) x.2.2.2.1 (toN x.1)).1)) (toN (getAt ((0:Int),(0:Int),(0:Int),false) x.2.2.2.1 (toN x.1)).2.1)),x.2.1,x.2.2.1,x.2.2.2.1,x.2.2.2.2.1,x.2.2.2.2.2.1,x.2.2.2.2.2.2.1,x.2.2.2.2.2.2.2)
 else
 none
 else
 none
 else
 none
abbrev Zni:=Spec.shp Zgc Zjx Z26
def Zae:Ctx:={ tb:=mkTb T2.tbl,fx:=[],sum:=[],nt:=28,pin:=1,nr:=true,ys:=[] }
theorem Z27:Sound Tryz.prog 78 (Zni) :=
 Sound.shp (C:=Zae) (fn:=Tryz.f78) (by kernel_rfl) (c:=bodyOf Tryz.f78) (by kernel_rfl) (by decide) (ctxOK mixed tbl_ok rfl trivial trivial) (SumOK.of trivial) (by kernel_rfl) Zgc Zjx rfl (by decide) (by decide) rfl (by decide) rfl Z26 (fun x=>by kernel_rfl)
abbrev Zga:Shape:={ sl:=sl_25,bl:=bl_2,ts:=ts_10,pin:=0 }
abbrev Zjv:Shape:={ sl:=[],bl:=bl_2,ts:=ts_11,pin:=1 }
def Z22 (x:T58):Option T57 :=
 bif (inb x.1 (List.length x.2.2.2.1)) then
 (Z24 (x.1,(IntKind.wrap .i64 ((getAt ((0:Int),(0:Int),(0:Int),false) x.2.2.2.1 (toN x.1)).2.1+(1:Int))),x.2.1,x.2.2.1,x.2.2.2.1,x.2.2.2.2.1,x.2.2.2.2.2.1,x.2.2.2.2.2.2.1,x.2.2.2.2.2.2.2)).bind fun r15 =>
 some (r15.1,r15.2.1,r15.2.2.1,r15.2.2.2.1,r15.2.2.2.2.1,r15.2.2.2.2.2.1,r15.2.2.2.2.2.2)
 else
 none
abbrev Zng:=Spec.shp Zga Zjv Z22
def Zac:Ctx:={ tb:=mkTb T2.tbl,fx:=[(41,[],Znh)],sum:=[],nt:=17,pin:=1,nr:=true,ys:=[] }
theorem Z23:Sound Tryz.prog 120 (Zng) :=
 Sound.shp (C:=Zac) (fn:=Tryz.f120) (by kernel_rfl) (c:=bodyOf Tryz.f120) (by kernel_rfl) (by decide) (ctxOK mixed tbl_ok rfl ⟨Z25,trivial⟩ trivial) (SumOK.of trivial) (by kernel_rfl) Zga Zjv rfl (by decide) (by decide) rfl (by decide) rfl Z22 (fun x=>by kernel_rfl)
abbrev Zgg:Shape:={ sl:=sl_26,bl:=bl_2,ts:=ts_14,pin:=0 }
abbrev Zk1:Shape:={ sl:=[],bl:=bl_2,ts:=ts_11,pin:=1 }
def Z2e (x:T60):Option T57 :=
 (Z22 (x.1.1,x.2.2.1,x.2.2.2.1,x.2.2.2.2.1,x.2.2.2.2.2.1,x.2.2.2.2.2.2.1,x.2.2.2.2.2.2.2.1,x.2.2.2.2.2.2.2.2)).bind fun r14 =>
 some (r14.1,r14.2.1,r14.2.2.1,r14.2.2.2.1,r14.2.2.2.2.1,r14.2.2.2.2.2.1,r14.2.2.2.2.2.2)
abbrev Znm:=Spec.shp Zgg Zk1 Z2e
def Zai:Ctx:={ tb:=mkTb T2.tbl,fx:=[(120,[],Zng)],sum:=[],nt:=10,pin:=1,nr:=true,ys:=[] }
theorem Z2f:Sound Tryz.prog 64 (Znm) :=
 Sound.shp (C:=Zai) (fn:=Tryz.f64) (by kernel_rfl) (c:=bodyOf Tryz.f64) (by kernel_rfl) (by decide) (ctxOK mixed tbl_ok rfl ⟨Z23,trivial⟩ trivial) (SumOK.of trivial) (by kernel_rfl) Zgg Zk1 rfl (by decide) (by decide) rfl (by decide) rfl Z2e (fun x=>by kernel_rfl)
abbrev Zfh:Shape:={ sl:=sl_17,bl:=[],ts:=[y5],pin:=0 }
abbrev Zj2:Shape:={ sl:=sl_1,bl:=[],ts:=ts_1,pin:=0 }
def Ze (x:(T7)):Option (Bool) :=
 bif (decide (x.1 ≥ (0:Int))) then
 bif (decide (x.2.1 ≥ (0:Int))) then
 some (decide (x.2.2 ≥ (0:Int)))
 else
 some false
 else
 some false
abbrev Zmn:=Spec.shp Zfh Zj2 Ze
def Z9a:Ctx:={ tb:=mkTb T2.tbl,fx:=[],sum:=[],nt:=16,pin:=0,nr:=true,ys:=[] }
theorem Zf:Sound Tryz.prog 206 (Zmn) :=
 Sound.shp (C:=Z9a) (fn:=Tryz.f206) (by kernel_rfl) (c:=bodyOf Tryz.f206) (by kernel_rfl) (by decide) (ctxOK mixed tbl_ok rfl trivial trivial) (SumOK.of trivial) (by kernel_rfl) Zfh Zj2 rfl (by decide) (by decide) rfl (by decide) rfl Ze (fun x=>by kernel_rfl)
abbrev Zfl:Shape:={ sl:=sl_25,bl:=bl_12,ts:=[(.int .i64),y42],pin:=0 }
abbrev Zj6:Shape:={ sl:=[],bl:=bl_12,ts:=[y42],pin:=1 }
def Zo (x:(Int × T46)):Option (T46) :=
 (Z6s (x.2.1.2.2.2.2.2.1,x.1)).bind fun r23 =>
 (Z6s (x.2.1.2.2.2.2.2.2,x.1)).bind fun r24 =>
 some ((x.2.1.1,x.2.1.2.1,x.2.1.2.2.1,x.2.1.2.2.2.1,x.2.1.2.2.2.2.1,r23.1,r24.1),x.2.2)
abbrev Zmr:=Spec.shp Zfl Zj6 Zo
def Z9f:Ctx:={ tb:=mkTb T2.tbl,fx:=[(164,[],Zpr)],sum:=[],nt:=32,pin:=1,nr:=true,ys:=[] }
theorem Zp:Sound Tryz.prog 205 (Zmr) :=
 Sound.shp (C:=Z9f) (fn:=Tryz.f205) (by kernel_rfl) (c:=bodyOf Tryz.f205) (by kernel_rfl) (by decide) (ctxOK mixed tbl_ok rfl ⟨Z6w,trivial⟩ trivial) (SumOK.of trivial) (by kernel_rfl) Zfl Zj6 rfl (by decide) (by decide) rfl (by decide) rfl Zo (fun x=>by kernel_rfl)
abbrev Zfn:Shape:={ sl:=sl_15,bl:=bl_12,ts:=[y42],pin:=0 }
abbrev Zj8:Shape:={ sl:=sl_2,bl:=bl_12,ts:=[(.int .i64),y42],pin:=1 }
def Zs (x:(T46)):Option (Int × T46) :=
 some (x.1.2.2.2.1,(x.1.1,x.1.2.1,x.1.2.2.1,(IntKind.wrap .i64 (x.1.2.2.2.1+(1:Int))),(IntKind.wrap .i64 (x.1.2.2.2.2.1+(1:Int))),x.1.2.2.2.2.2),x.2)
abbrev Zmt:=Spec.shp Zfn Zj8 Zs
def Z9h:Ctx:={ tb:=mkTb T2.tbl,fx:=[],sum:=[],nt:=28,pin:=1,nr:=true,ys:=[] }
theorem Zt:Sound Tryz.prog 209 (Zmt) :=
 Sound.shp (C:=Z9h) (fn:=Tryz.f209) (by kernel_rfl) (c:=bodyOf Tryz.f209) (by kernel_rfl) (by decide) (ctxOK mixed tbl_ok rfl trivial trivial) (SumOK.of trivial) (by kernel_rfl) Zfn Zj8 rfl (by decide) (by decide) rfl (by decide) rfl Zs (fun x=>by kernel_rfl)
abbrev Zi2:Shape:={ sl:=[(0,(.hole y0))],bl:=[],ts:=[y0],pin:=0 }
abbrev Zln:Shape:={ sl:=[(0,(.sl 0))],bl:=bl_14,ts:=[y0],pin:=0 }
def Z5o (x:(List Int)):Option (List Int) :=
 bif (@Nat.beq (List.length x) (0:Nat)) then
 amb (
 some ([]:List Int)) (
 bif (fits ((List.length ([]:List Int))+(List.length x))) then
 some (([]:List Int)++x)
 else
 none)
 else
 bif (fits ((List.length ([]:List Int))+(List.length x))) then
 some (([]:List Int)++x)
 else
 none
abbrev Zp7:=Spec.shp Zi2 Zln Z5o
def Zcf:Ctx:={ tb:=mkTb T2.tbl,fx:=[],sum:=[],nt:=8,pin:=0,nr:=true,ys:=[] }
theorem Z5p:Sound Tryz.prog 238 (Zp7) :=
 Sound.shp (C:=Zcf) (fn:=Tryz.f238) (by kernel_rfl) (c:=bodyOf Tryz.f238) (by kernel_rfl) (by decide) (ctxOK mixed tbl_ok rfl trivial trivial) (SumOK.of trivial) (by kernel_rfl) Zi2 Zln rfl (by decide) (by decide) rfl (by decide) rfl Z5o (fun x=>by kernel_rfl)
abbrev Zhw:Shape:={ sl:=[(0,(.one (.pr (.hole (.int .i64)) (.pr (.hole (.int .i64)) (.pr (.sl 0) (.hole (.int .i64))))))),(1,(.hole (.int .i64)))],bl:=bl_14,ts:=[(.int .i64),(.int .i64),(.int .i64),(.int .i64),y0],pin:=0 }
abbrev Zlh:Shape:={ sl:=sl_2,bl:=bl_14,ts:=[(.int .i64),y0],pin:=1 }
def Z5b (x:(Int × Int × Int × Int × List Int)):Option T3 :=
 bif (x.1 != (0:Int)) then
 some ((Int.tmod (IntKind.wrap .i64 (x.2.1+x.2.2.2.1)) x.1),x.2.2.2.2)
 else
 none
abbrev Zp1:=Spec.shp Zhw Zlh Z5b
def Zc9:Ctx:={ tb:=mkTb T2.tbl,fx:=[],sum:=[],nt:=14,pin:=1,nr:=true,ys:=[] }
theorem Z5c:Sound Tryz.prog 232 (Zp1) :=
 Sound.shp (C:=Zc9) (fn:=Tryz.f232) (by kernel_rfl) (c:=bodyOf Tryz.f232) (by kernel_rfl) (by decide) (ctxOK mixed tbl_ok rfl trivial trivial) (SumOK.of trivial) (by kernel_rfl) Zhw Zlh rfl (by decide) (by decide) rfl (by decide) rfl Z5b (fun x=>by kernel_rfl)
abbrev Zhr:Shape:={ sl:=sl_12,bl:=[],ts:=[y21,(.int .i64)],pin:=0 }
abbrev Zlc:Shape:={ sl:=sl_12,bl:=[],ts:=[y21,(.int .i64)],pin:=0 }
def Z52 (x:(T16 × Int)):Option (T16 × Int) :=
 (Z54 x.1).bind fun r25 =>
 bif (Bool.not r25) then
 some (((0:Int),(0:Int),([]:List Int),(0:Int)),(1:Int))
 else
 bif (x.1.2.2.2 == x.1.1) then
 some (((0:Int),(0:Int),([]:List Int),(0:Int)),(5:Int))
 else
 (Z5o x.1.2.2.1).bind fun r26 =>
 (Z5b (x.1.1,x.1.2.1,x.1.2.2.2,x.1.2.2.2,r26)).bind fun r27 =>
 bif (inb r27.1 (List.length r27.2)) then
 some ((x.1.1,x.1.2.1,(List.set r27.2 (toN r27.1) x.2),(IntKind.wrap .i64 (x.1.2.2.2+(1:Int)))),(0:Int))
 else
 none
abbrev Zow:=Spec.shp Zhr Zlc Z52
def Zc3:Ctx:={ tb:=mkTb T2.tbl,fx:=[(196,[],Zox),(238,[],Zp7),(232,[2000000],Zp1)],sum:=[],nt:=38,pin:=0,nr:=true,ys:=[] }
theorem Z53:Sound Tryz.prog 235 (Zow) :=
 Sound.shp (C:=Zc3) (fn:=Tryz.f235) (by kernel_rfl) (c:=bodyOf Tryz.f235) (by kernel_rfl) (by decide) (ctxOK mixed tbl_ok rfl ⟨Z55,Z5p,Z5c,trivial⟩ trivial) (SumOK.of trivial) (by kernel_rfl) Zhr Zlc rfl (by decide) (by decide) rfl (by decide) rfl Z52 (fun x=>by kernel_rfl)
abbrev Zfp:Shape:={ sl:=sl_15,bl:=bl_12,ts:=[y42],pin:=0 }
abbrev Zja:Shape:={ sl:=sl_2,bl:=bl_12,ts:=[(.int .i64),y42],pin:=1 }
def Zw (x:(T46)):Option (Int × T46) :=
 (Z52 (x.1.2.2.1,x.1.2.2.2.1)).bind fun r24 =>
 some (x.1.2.2.2.1,(x.1.1,x.1.2.1,r24.1,(IntKind.wrap .i64 (x.1.2.2.2.1+(1:Int))),x.1.2.2.2.2),x.2)
abbrev Zmv:=Spec.shp Zfp Zja Zw
def Z9j:Ctx:={ tb:=mkTb T2.tbl,fx:=[(235,[],Zow)],sum:=[],nt:=33,pin:=1,nr:=true,ys:=[] }
theorem Zx:Sound Tryz.prog 208 (Zmv) :=
 Sound.shp (C:=Z9j) (fn:=Tryz.f208) (by kernel_rfl) (c:=bodyOf Tryz.f208) (by kernel_rfl) (by decide) (ctxOK mixed tbl_ok rfl ⟨Z53,trivial⟩ trivial) (SumOK.of trivial) (by kernel_rfl) Zfp Zja rfl (by decide) (by decide) rfl (by decide) rfl Zw (fun x=>by kernel_rfl)
abbrev Ziq:Shape:={ sl:=[(0,(.hole (.slice y5))),(1,(.hole y5))],bl:=[],ts:=[(.slice y5),y5],pin:=0 }
abbrev Zmb:Shape:={ sl:=sl_23,bl:=[],ts:=ts_12,pin:=0 }
def Z72 (x:(List (T7) × T7)):Option T15 :=
 (Z74 x.1).bind fun r24 =>
 bif (Bool.not r24) then
 some (([]:List T7),(1:Int))
 else
 (Z78 x.2).bind fun r25 =>
 bif (Bool.not r25) then
 some (([]:List T7),(1:Int))
 else
 (Z7a x.1).bind fun r26 =>
 bif (decide ((@mlook (Int × Int) (Int) (Ty.beq y4) (Ty.zero (.int .i64)) (x.2.1,x.2.2.1) r26) > (0:Int))) then
 some (([]:List T7),(7:Int))
 else
 bif ((((List.length x.1):Nat):Int) == (64:Int)) then
 some (([]:List T7),(5:Int))
 else
 (Z5m x.1).bind fun r27 =>
 bif (fits ((List.length r27)+(List.length (x.2 :: ([]:List T7))))) then
 some ((r27++(x.2 :: ([]:List T7))),(0:Int))
 else
 none
abbrev Zpv:=Spec.shp Ziq Zmb Z72
def Zde:Ctx:={ tb:=mkTb T2.tbl,fx:=[(161,[],Zpw),(199,[],Zpy),(200,[],Zpz),(202,[],Zp6)],sum:=[],nt:=34,pin:=0,nr:=true,ys:=[] }
theorem Z73:Sound Tryz.prog 171 (Zpv) :=
 Sound.shp (C:=Zde) (fn:=Tryz.f171) (by kernel_rfl) (c:=bodyOf Tryz.f171) (by kernel_rfl) (by decide) (ctxOK mixed tbl_ok rfl ⟨Z77,Z79,Z7b,Z5n,trivial⟩ trivial) (SumOK.of trivial) (by kernel_rfl) Ziq Zmb rfl (by decide) (by decide) rfl (by decide) rfl Z72 (fun x=>by kernel_rfl)
end
end Go.Proofs.YthdlpkdojipfhaaGreat.VX.VxM_M

