/- Laid for the law MachineApart. -/
import Derived.Test.YthdlpkdojipfhaaGreatMachineApartE15
import Derived.Test.YthdlpkdojipfhaaGreatMachineApartE16
set_option linter.unusedVariables false
set_option maxRecDepth 100000
namespace Go.Proofs.YthdlpkdojipfhaaGreat.VX.VxM_M
open Go.Proofs Go.Proofs.YthdlpkdojipfhaaGreat.VX.T2
noncomputable section
theorem mixed:Tryz.prog.follows .mixedOrders=true:=by kernel_rfl
abbrev T0:=Bool × Int
abbrev T1:=Int × Bool
abbrev T2:=List Int × Int
abbrev T3:=Int × List Int
abbrev T4:=Int × Int × Int
abbrev T5:=(List Int) × Int
abbrev T6:=List (Int × Int)
abbrev T7:=Int × (Int × Int)
abbrev T8:=(Int × Int) × Int
abbrev T9:=List Int × Int × Int
abbrev T10:=List Int × List Int × Int × Int
abbrev T11:=List (Int × Int) × Int × Int × (Int × Int)
abbrev T12:=List T0 × Bool
abbrev T13:=Int × List (T7)
abbrev T14:=Int × (List T7)
abbrev T15:=List (T7) × Int
abbrev T16:=Int × (Int × T2)
abbrev T17:=Int × (Int × T1)
abbrev T18:=Bool × List (T7)
abbrev T19:=Int × (Int × T5)
abbrev T20:=Int × (Int × T7)
abbrev T21:=(List T0) × Bool
abbrev T22:=Bool × (List T7)
abbrev T23:=Int × (T7 × Int)
abbrev T24:=List (T7) × List (T7)
abbrev T25:=(List T7) × (List T7)
abbrev T26:=List (T7) × List (T7) × Int × Int
abbrev T29:=(Int × T13)
abbrev T30:=(Int × T13) × T7
abbrev T31:=Int × (Int × T24)
abbrev T32:=Int × (Int × T25)
abbrev T33:=Int × T16 × List Int
abbrev T34:=(Int × T13) × Int × Int
abbrev T35:=List (T12) × List (List (T7))
abbrev T39:=Int × (Int × T35)
abbrev T40:=Bool × (T16 × T31)
abbrev T41:=Bool × (T19 × T32)
abbrev T42:=List T29 × (Int × Int)
abbrev T43:=(Int × T40)
abbrev T44:=List (T18) × T42
abbrev T45:=(Int × T40) × T7
abbrev T46:=(Int × T40) × Int
abbrev T47:=List Int × (Int × T39)
abbrev T48:=(Int × T40) × (Int × T23) × Int
abbrev T49:=List T43 × T44
abbrev T50:=T47 × List (T7)
abbrev T52:=Int × Int × T47 × T47
abbrev T53:=List (T12) × Int × Int × T47
abbrev T54:=List (List (T7)) × Int × Int × T47
abbrev T55:=List (T12) × Int × Int × T47 × Int × Int × Int × List (T12)
abbrev T56:=Int × List (T7) × List (List (T7)) × Int × Int × List (T7) × Int × Int × T47
abbrev T57:=T47 × (Int × Int) × List (T17) × List T43 × List (T18) × List T29 × List (T20)
abbrev T58:=Int × T47 × (Int × Int) × List (T17) × List T43 × List (T18) × List T29 × List (T20)
abbrev T59:=List (List (T7)) × Int × Int × T47 × Int × Int × Int × List (T12) × List (List (T7))
abbrev T60:=(Int × Int) × T7 × T47 × (Int × Int) × List (T17) × List T43 × List (T18) × List T29 × List (T20)
abbrev T61:=List (T17) × T49
abbrev T62:=(T47 × T61)
abbrev T64:=List Int × Int × Int × (T47 × T61)
abbrev T65:=Int × Int × (T47 × T61) × (T47 × T61)
abbrev T67:=List (T17) × Int × Int × (T47 × T61) × List (Int × Int)
abbrev T68:=Int × List T0 × Int × Int × (T47 × T61) × List (Int × Int)
abbrev y0:Ty:=.slice (.int .i64)
abbrev y1:Ty:=.arr 8 (.int .i64)
abbrev y2:Ty:=.pair .bool (.int .i64)
abbrev y3:Ty:=.pair (.int .i64) .bool
abbrev y4:Ty:=.pair (.int .i64) (.int .i64)
abbrev y5:Ty:=.pair (.int .i64) y4
abbrev y6:Ty:=.pair y0 (.int .i64)
abbrev y7:Ty:=.pair (.int .i64) y3
abbrev y8:Ty:=.pair y4 (.int .i64)
abbrev y9:Ty:=.pair (.slice y2) .bool
abbrev y10:Ty:=.slice (.slice y5)
abbrev y11:Ty:=.pair (.int .i64) y6
abbrev y12:Ty:=.pair (.int .i64) y7
abbrev y13:Ty:=.pair (.int .i64) y5
abbrev y14:Ty:=.pair y5 (.int .i64)
abbrev y15:Ty:=.pair .bool (.slice y5)
abbrev y16:Ty:=.pair (.slice y5) (.slice y5)
abbrev y17:Ty:=.pair (.int .i64) (.slice y5)
abbrev y18:Ty:=.slice y12
abbrev y19:Ty:=.slice y15
abbrev y20:Ty:=.pair (.slice y9) y10
abbrev y21:Ty:=.pair (.int .i64) y11
abbrev y22:Ty:=.pair (.int .i64) y16
abbrev y23:Ty:=.pair (.int .i64) y17
abbrev y24:Ty:=.pair (.int .i64) y13
abbrev y25:Ty:=.pair (.int .i64) y14
abbrev y26:Ty:=.slice y23
abbrev y27:Ty:=.slice y24
abbrev y28:Ty:=.pair (.int .i64) y20
abbrev y29:Ty:=.pair (.int .i64) y22
abbrev y30:Ty:=.pair (.int .i64) y25
abbrev y31:Ty:=.pair y26 y4
abbrev y32:Ty:=.pair y21 y29
abbrev y33:Ty:=.pair (.int .i64) y28
abbrev y35:Ty:=.pair y19 y31
abbrev y36:Ty:=.pair .bool y32
abbrev y37:Ty:=.pair (.int .i64) y33
abbrev y39:Ty:=.pair y0 y37
abbrev y40:Ty:=.pair (.int .i64) y36
abbrev y41:Ty:=.slice y40
abbrev y42:Ty:=.pair y40 (.int .i64)
abbrev y43:Ty:=.pair y41 y35
abbrev y44:Ty:=.pair y18 y43
abbrev y45:Ty:=.pair y39 y44
abbrev bl_0:List BPat:=[.var (.hole y39)]
abbrev bl_1:List BPat:=[.var (.pr (.pr .nl (.pr (.hole (.int .i64)) (.pr (.hole (.int .i64)) (.pr (.hole (.int .i64)) (.pr .nl .nl))))) (.pr .nl (.pr .nl (.pr .nl (.pr .nl (.hole y4)))))),.var (.pr (.hole y39) (.pr (.sl 2) (.pr (.sl 3) (.pr (.sl 4) (.pr (.sl 5) (.hole y4)))))),.row y12,.row y40,.row y15,.row y23]
abbrev bl_2:List BPat:=[.var (.pr (.pr (.hole y39) (.pr (.sl 1) (.pr (.sl 2) (.pr (.sl 3) (.pr (.sl 4) (.hole y4)))))) (.sl 5)),.row y12,.row y40,.row y15,.row y23,.row y24]
abbrev bl_3:List BPat:=[.var (.hole (.int .i64))]
abbrev bl_4:List BPat:=[.row y12,.var (.hole (.int .i64))]
abbrev bl_5:List BPat:=[.var (.ptr 1 []),.var (.pr (.pr (.hole y39) (.pr (.sl 2) (.pr (.sl 3) (.pr (.sl 4) (.pr (.sl 5) (.hole y4)))))) (.sl 6)),.row y12,.row y40,.row y15,.row y23,.row y24]
abbrev bl_6:List BPat:=[.lp 10485766 [4] (.cons (.ptr 2 []) .nil),.var (.hole (.one y21)),.var (.sl 3),.row (.int .i64)]
abbrev bl_7:List BPat:=[.lpt 10485766 [4] (.cons (.ptr 2 []) .nil),.var (.hole (.one y21)),.var (.sl 3),.row (.int .i64)]
abbrev bl_8:List BPat:=[.var (.hole y45),.var (.hole (.int .i64)),.var (.hole .bool)]
abbrev bl_9:List BPat:=[.var (.hole y45)]
abbrev bl_10:List BPat:=[.var (.hole y45),.var (.hole (.int .i64)),.var (.hole (.int .i64))]
abbrev bl_11:List BPat:=[.row y5,.var (.hole (.int .i64))]
abbrev bl_12:List BPat:=[.var (.hole y42)]
abbrev bl_13:List BPat:=[.var (.hole y45),.row y4]
abbrev bl_14:List BPat:=[.row (.int .i64)]
abbrev bl_15:List BPat:=[.var (.pr (.pr (.hole y39) (.pr (.sl 2) (.pr (.sl 3) (.pr (.sl 4) (.pr (.sl 5) (.hole y4)))))) (.sl 6)),.var (.hole y4),.row y12,.row y40,.row y15,.row y23,.row y24]
abbrev bl_18:List BPat:=[.var (.hole y39),.var (.pr .nl (.pr (.hole (.int .i64)) (.pr (.hole (.int .i64)) (.pr (.hole (.int .i64)) (.pr .nl .nl))))),.row y9]
abbrev bl_19:List BPat:=[.var (.hole y39),.var (.pr .nl (.pr (.hole (.int .i64)) (.pr (.hole (.int .i64)) (.pr (.hole (.int .i64)) (.pr .nl .nl))))),.row y9,.row (.slice y5)]
abbrev bl_20:List BPat:=[.var (.hole y45),.var (.hole y45)]
abbrev ts_0:List Ty:=[(.int .i64),(.int .i64),(.int .i64)]
abbrev ts_1:List Ty:=[.bool]
abbrev ts_2:List Ty:=[(.int .i64)]
abbrev ts_3:List Ty:=[y0,(.int .i64),(.int .i64)]
abbrev ts_4:List Ty:=[(.slice y9),(.int .i64),(.int .i64),y39]
abbrev ts_5:List Ty:=[(.int .i64),(.int .i64)]
abbrev ts_6:List Ty:=[y39,(.slice y5)]
abbrev ts_7:List Ty:=[(.int .i64),(.slice y5),y10,(.int .i64),(.int .i64),(.slice y5),(.int .i64),(.int .i64),y39]
abbrev ts_8:List Ty:=[y10,(.int .i64),(.int .i64),y39]
abbrev ts_9:List Ty:=[(.int .i64),(.int .i64),(.int .i64),y4,y39,y4,y18,y41,y19,y26]
abbrev ts_10:List Ty:=[(.int .i64),y39,y4,y18,y41,y19,y26,y27]
abbrev ts_11:List Ty:=[y39,y4,y18,y41,y19,y26,y27]
abbrev ts_12:List Ty:=[(.slice y5),(.int .i64)]
abbrev ts_13:List Ty:=[(.int .i64),(.slice y2),(.int .i64),(.int .i64),y45,(.slice y4)]
abbrev ts_14:List Ty:=[y4,y5,y39,y4,y18,y41,y19,y26,y27]
abbrev ts_15:List Ty:=[y23,(.int .i64),(.int .i64)]
abbrev ts_16:List Ty:=[(.slice y9),(.int .i64),(.int .i64),y39,(.int .i64),(.int .i64),(.int .i64),(.slice y9)]
abbrev ts_17:List Ty:=[y10,(.int .i64),(.int .i64),y39,(.int .i64),(.int .i64),(.int .i64),(.slice y9),y10]
abbrev sl_0:List (Nat × Pat):=[(0,(.hole (.int .i64))),(1,(.hole (.int .i64))),(2,(.hole (.int .i64)))]
abbrev sl_1:List (Nat × Pat):=[(0,(.hole .bool))]
abbrev sl_2:List (Nat × Pat):=[(0,(.hole (.int .i64)))]
abbrev sl_3:List (Nat × Pat):=[(4,(.hole (.int .i64)))]
abbrev sl_4:List (Nat × Pat):=[(0,(.hole (.slice y2))),(1,(.fn 194 .nil (.cons (.ptr 0 []) .nil)))]
abbrev sl_5:List (Nat × Pat):=[(2,(.hole (.int .i64))),(3,(.hole (.int .i64)))]
abbrev sl_6:List (Nat × Pat):=[(0,(.hole y39))]
abbrev sl_7:List (Nat × Pat):=[(0,(.hole (.int .i64))),(1,(.hole (.int .i64)))]
abbrev sl_8:List (Nat × Pat):=[(0,(.hole y39)),(1,(.hole (.slice y5)))]
abbrev sl_9:List (Nat × Pat):=[(1,(.ptr 0 [])),(7,(.hole (.int .i64))),(8,(.hole (.slice y5))),(22,(.hole y10)),(23,(.hole (.int .i64))),(24,(.hole (.int .i64))),(33,(.hole (.slice y5))),(34,(.hole (.int .i64))),(35,(.hole (.int .i64)))]
abbrev sl_10:List (Nat × Pat):=[(2,(.hole (.int .i64))),(3,(.hole (.int .i64))),(4,(.hole (.int .i64)))]
abbrev sl_11:List (Nat × Pat):=[(1,(.ptr 0 [])),(22,(.hole y10)),(23,(.hole (.int .i64))),(24,(.hole (.int .i64)))]
abbrev sl_12:List (Nat × Pat):=[(0,(.hole y21)),(1,(.hole (.int .i64)))]
abbrev sl_13:List (Nat × Pat):=[(0,(.hole y40)),(1,(.hole (.int .i64)))]
abbrev sl_14:List (Nat × Pat):=[(0,(.ptr 0 [])),(1,(.hole (.int .i64))),(2,(.hole (.int .i64)))]
abbrev sl_15:List (Nat × Pat):=[(0,(.ptr 0 []))]
abbrev sl_16:List (Nat × Pat):=[(0,(.hole y0)),(1,(.hole (.int .i64)))]
abbrev sl_17:List (Nat × Pat):=[(0,(.hole y5))]
abbrev sl_18:List (Nat × Pat):=[(0,(.hole (.slice y5)))]
abbrev sl_19:List (Nat × Pat):=[(0,(.hole y0)),(1,(.hole (.int .i64))),(2,(.hole (.int .i64)))]
abbrev sl_20:List (Nat × Pat):=[(0,(.hole y5)),(1,(.ptr 0 [])),(2,(.ptr 1 [])),(3,(.ptr 2 []))]
abbrev sl_21:List (Nat × Pat):=[(0,(.hole (.slice y5))),(1,(.fn 110 .nil (.cons (.ptr 0 []) (.cons (.ptr 1 []) (.cons (.ptr 2 []) .nil)))))]
abbrev sl_22:List (Nat × Pat):=[(0,(.hole (.slice y5))),(1,(.fn 115 .nil (.cons (.ptr 0 []) (.cons (.ptr 1 []) (.cons (.ptr 2 []) .nil)))))]
abbrev sl_23:List (Nat × Pat):=[(0,(.hole (.slice y5))),(1,(.hole (.int .i64)))]
abbrev sl_24:List (Nat × Pat):=[(0,(.hole (.slice y4))),(1,(.hole y4))]
abbrev sl_25:List (Nat × Pat):=[(0,(.ptr 0 [])),(1,(.hole (.int .i64)))]
abbrev sl_26:List (Nat × Pat):=[(0,(.ptr 0 [])),(1,(.hole y4)),(2,(.hole y5))]
abbrev sl_27:List (Nat × Pat):=[(0,(.hole y40)),(1,(.hole y5))]
abbrev sl_28:List (Nat × Pat):=[(0,(.hole y40)),(1,(.hole y30)),(2,(.hole (.int .i64)))]
abbrev sl_29:List (Nat × Pat):=[(0,(.ptr 0 [])),(1,(.hole y5)),(2,(.hole (.int .i64))),(3,(.hole .bool))]
abbrev sl_30:List (Nat × Pat):=[(0,(.hole y23)),(1,(.hole y5))]
abbrev sl_31:List (Nat × Pat):=[(0,(.hole y23)),(1,(.hole (.int .i64))),(2,(.hole (.int .i64)))]
abbrev sl_32:List (Nat × Pat):=[(1,(.ptr 0 [])),(2,(.ptr 1 [])),(3,(.sl 2)),(23,(.hole (.slice y9))),(24,(.hole (.int .i64))),(25,(.hole (.int .i64)))]
abbrev sl_33:List (Nat × Pat):=[(1,(.ptr 0 [])),(2,(.ptr 1 [])),(3,(.sl 2)),(6,(.sl 3)),(48,(.hole y10)),(49,(.hole (.int .i64))),(50,(.hole (.int .i64)))]
abbrev sl_35:List (Nat × Pat):=[(4,(.hole .bool))]
abbrev sl_36:List (Nat × Pat):=[(0,(.hole (.slice y9))),(1,(.hole (.slice y9))),(13,(.hole (.int .i64))),(14,(.hole (.int .i64)))]
abbrev sl_37:List (Nat × Pat):=[(2,(.ptr 0 [])),(3,(.ptr 1 []))]
abbrev sl_38:List (Nat × Pat):=[(0,(.hole (.slice y5))),(1,(.hole (.slice y5))),(12,(.hole (.int .i64))),(13,(.hole (.int .i64)))]
abbrev Zkw:Shape:={ sl:=sl_0,bl:=[],ts:=ts_0,pin:=0 }
abbrev Zov:Shape:={ sl:=sl_1,bl:=[],ts:=ts_1,pin:=0 }
def Z4x (x:T4):Option (Bool) :=
 bif (decide (x.1 ≥ x.2.1)) then
 some (decide (x.1 ≤ x.2.2))
 else
 some false
abbrev Zsu:=Spec.shp Zkw Zov Z4x
def Zdz:Ctx:={ tb:=mkTb T2.tbl,fx:=[],sum:=[],nt:=15,pin:=0,nr:=true,ys:=[] }
theorem Z4y:Sound Tryz.prog 191 (Zsu) :=
 Sound.shp (C:=Zdz) (fn:=Tryz.f191) (by kernel_rfl) (c:=bodyOf Tryz.f191) (by kernel_rfl) (by decide) (ctxOK mixed tbl_ok rfl trivial trivial) (SumOK.of trivial) (by kernel_rfl) Zkw Zov rfl (by decide) (by decide) rfl (by decide) rfl Z4x (fun x=>by kernel_rfl)
abbrev Zl5:Shape:={ sl:=sl_2,bl:=[],ts:=ts_2,pin:=0 }
abbrev Zp4:Shape:={ sl:=sl_1,bl:=[],ts:=ts_1,pin:=0 }
def Z5e (x:(Int)):Option (Bool) :=
 (Z4x (x,(Int.negSucc 0),(3:Int))).bind fun r14 =>
 some (Bool.not r14)
abbrev Zt3:=Spec.shp Zl5 Zp4 Z5e
def Ze8:Ctx:={ tb:=mkTb T2.tbl,fx:=[(191,[],Zsu)],sum:=[],nt:=6,pin:=0,nr:=true,ys:=[] }
theorem Z5f:Sound Tryz.prog 192 (Zt3) :=
 Sound.shp (C:=Ze8) (fn:=Tryz.f192) (by kernel_rfl) (c:=bodyOf Tryz.f192) (by kernel_rfl) (by decide) (ctxOK mixed tbl_ok rfl ⟨Z4y,trivial⟩ trivial) (SumOK.of trivial) (by kernel_rfl) Zl5 Zp4 rfl (by decide) (by decide) rfl (by decide) rfl Z5e (fun x=>by kernel_rfl)
abbrev Zie:Shape:={ sl:=[(0,(.hole y0)),(1,(.fn 192 .nil .nil)),(7,(.hole (.int .i64))),(8,(.hole (.int .i64)))],bl:=[],ts:=ts_3,pin:=0 }
abbrev Zh4:List (ETag × Shape):=[(.ret,{ sl:=sl_3,bl:=[],ts:=ts_2,pin:=0 }),(.exit 0,{ sl:=[],bl:=[],ts:=[],pin:=0 })]
def Zah (x:T9):Option (T9 ⊕ ((Int) ⊕ Unit)) :=
 bif (decide (x.2.2 < x.2.1)) then
 bif (inb x.2.2 (List.length x.1)) then
 (Z5e (getAt (0:Int) x.1 (toN x.2.2))).bind fun r13 =>
 bif r13 then
 some (.inr (.inl x.2.2))
 else
 some (.inl (x.1,x.2.1,(IntKind.wrap .i64 (x.2.2+(1:Int)))))
 else
 none
 else
 some (.inr (.inr ()))
def Zfk:Ctx:={ tb:=mkTb T2.tbl,fx:=[(192,[],Zt3)],sum:=[],nt:=19,pin:=0,nr:=true,ys:=[] }
theorem Zai:CSound Tryz.prog ⟨19,0,true⟩ (.loop (loopOf 3 Tryz.f140)) (Yav Zie Zh4 (loop Zah)) :=
 Y8e (C:=Zfk) (ctxOK mixed tbl_ok rfl ⟨Z5f,trivial⟩ trivial) (SumOK.of trivial) Zie Zh4 rfl rfl Zah (fun x=>by kernel_rfl)
abbrev Zm5:Shape:={ sl:=[(0,(.hole y0)),(1,(.fn 192 .nil .nil))],bl:=[],ts:=[y0],pin:=0 }
abbrev Zq4:Shape:={ sl:=sl_2,bl:=[],ts:=ts_2,pin:=0 }
def Z7f (x:(List Int)):Option (Int) :=
 (loop Zah (x,(((List.length x):Nat):Int),(0:Int))).bind fun r12 =>
 match r12 with
 | .inl y13 =>
 some y13
 | .inr y13 =>
 some (Int.negSucc 0)
abbrev Zu2:=Spec.shp Zm5 Zq4 Z7f
def Zfj:Ctx:={ tb:=mkTb T2.tbl,fx:=[(192,[],Zt3)],sum:=[(0,3,Yav Zie Zh4 (loop Zah))],nt:=19,pin:=0,nr:=true,ys:=[] }
theorem Z7g:Sound Tryz.prog 140 (Zu2) :=
 Sound.shp (C:=Zfj) (fn:=Tryz.f140) (by kernel_rfl) (c:=bodyOf Tryz.f140) (by kernel_rfl) (by decide) (ctxOK mixed tbl_ok rfl ⟨Z5f,trivial⟩ trivial) (SumOK.of ⟨(Yax (d:=.loop (loopOf 3 Tryz.f140)) (by kernel_rfl) Zai),trivial⟩) (by kernel_rfl) Zm5 Zq4 rfl (by decide) (by decide) rfl (by decide) rfl Z7f (fun x=>by kernel_rfl)
abbrev Zlu:Shape:={ sl:=[(0,(.hole y0)),(1,(.fn 192 .nil .nil))],bl:=[],ts:=[y0],pin:=0 }
abbrev Zpt:Shape:={ sl:=sl_1,bl:=[],ts:=ts_1,pin:=0 }
def Z6t (x:(List Int)):Option (Bool) :=
 (Z7f x).bind fun r11 =>
 some (decide (r11 ≥ (0:Int)))
abbrev Ztr:=Spec.shp Zlu Zpt Z6t
def Zez:Ctx:={ tb:=mkTb T2.tbl,fx:=[(140,[192],Zu2)],sum:=[],nt:=9,pin:=0,nr:=true,ys:=[] }
theorem Z6u:Sound Tryz.prog 86 (Ztr) :=
 Sound.shp (C:=Zez) (fn:=Tryz.f86) (by kernel_rfl) (c:=bodyOf Tryz.f86) (by kernel_rfl) (by decide) (ctxOK mixed tbl_ok rfl ⟨Z7g,trivial⟩ trivial) (SumOK.of trivial) (by kernel_rfl) Zlu Zpt rfl (by decide) (by decide) rfl (by decide) rfl Z6t (fun x=>by kernel_rfl)
abbrev Zl6:Shape:={ sl:=[(0,(.hole y2)),(1,(.ptr 0 []))],bl:=bl_0,ts:=[y2,y39],pin:=0 }
abbrev Zp5:Shape:={ sl:=sl_1,bl:=bl_0,ts:=[.bool,y39],pin:=1 }
def Z5g (x:(T0 × T47)):Option (Bool × T47) :=
 (Z4x (x.1.2,(0:Int),(IntKind.wrap .i64 ((((List.length x.2.1):Nat):Int) - (1:Int))))).bind fun r16 =>
 some ((Bool.not r16),x.2)
abbrev Zt4:=Spec.shp Zl6 Zp5 Z5g
def Ze9:Ctx:={ tb:=mkTb T2.tbl,fx:=[(191,[],Zsu)],sum:=[],nt:=12,pin:=1,nr:=true,ys:=[] }
theorem Z5h:Sound Tryz.prog 194 (Zt4) :=
 Sound.shp (C:=Ze9) (fn:=Tryz.f194) (by kernel_rfl) (c:=bodyOf Tryz.f194) (by kernel_rfl) (by decide) (ctxOK mixed tbl_ok rfl ⟨Z4y,trivial⟩ trivial) (SumOK.of trivial) (by kernel_rfl) Zl6 Zp5 rfl (by decide) (by decide) rfl (by decide) rfl Z5g (fun x=>by kernel_rfl)
abbrev Zi6:Shape:={ sl:=[(0,(.hole (.slice y2))),(1,(.fn 194 .nil (.cons (.ptr 0 []) .nil))),(7,(.hole (.int .i64))),(8,(.hole (.int .i64)))],bl:=bl_0,ts:=[(.slice y2),(.int .i64),(.int .i64),y39],pin:=1 }
abbrev Zgw:List (ETag × Shape):=[(.ret,{ sl:=sl_3,bl:=bl_0,ts:=[(.int .i64),y39],pin:=1 }),(.exit 0,{ sl:=[],bl:=bl_0,ts:=[y39],pin:=1 })]
def Za1 (x:(List T0 × Int × Int × T47)):Option ((List T0 × Int × Int × T47) ⊕ ((Int × T47) ⊕ (T47))) :=
 bif (decide (x.2.2.1 < x.2.1)) then
 bif (inb x.2.2.1 (List.length x.1)) then
 (Z5g ((getAt (false,(0:Int)) x.1 (toN x.2.2.1)),x.2.2.2)).bind fun r15 =>
 bif r15.1 then
 some (.inr (.inl (x.2.2.1,r15.2)))
 else
 some (.inl (x.1,x.2.1,(IntKind.wrap .i64 (x.2.2.1+(1:Int))),r15.2))
 else
 none
 else
 some (.inr (.inr x.2.2.2))
def Zf4:Ctx:={ tb:=mkTb T2.tbl,fx:=[(194,[],Zt4)],sum:=[],nt:=19,pin:=1,nr:=true,ys:=[] }
theorem Za2:CSound Tryz.prog ⟨19,1,true⟩ (.loop (loopOf 3 Tryz.f222)) (Yav Zi6 Zgw (loop Za1)) :=
 Y8e (C:=Zf4) (ctxOK mixed tbl_ok rfl ⟨Z5h,trivial⟩ trivial) (SumOK.of trivial) Zi6 Zgw rfl rfl Za1 (fun x=>by kernel_rfl)
abbrev Zlx:Shape:={ sl:=sl_4,bl:=bl_0,ts:=[(.slice y2),y39],pin:=0 }
abbrev Zpw:Shape:={ sl:=sl_2,bl:=bl_0,ts:=[(.int .i64),y39],pin:=1 }
def Z6z (x:(List T0 × T47)):Option (Int × T47) :=
 (loop Za1 (x.1,(((List.length x.1):Nat):Int),(0:Int),x.2)).bind fun r14 =>
 match r14 with
 | .inl y15 =>
 some (y15.1,y15.2)
 | .inr y15 =>
 some ((Int.negSucc 0),y15)
abbrev Ztu:=Spec.shp Zlx Zpw Z6z
def Zf3:Ctx:={ tb:=mkTb T2.tbl,fx:=[(194,[],Zt4)],sum:=[(0,3,Yav Zi6 Zgw (loop Za1))],nt:=19,pin:=1,nr:=true,ys:=[] }
theorem Z70:Sound Tryz.prog 222 (Ztu) :=
 Sound.shp (C:=Zf3) (fn:=Tryz.f222) (by kernel_rfl) (c:=bodyOf Tryz.f222) (by kernel_rfl) (by decide) (ctxOK mixed tbl_ok rfl ⟨Z5h,trivial⟩ trivial) (SumOK.of ⟨(Yax (d:=.loop (loopOf 3 Tryz.f222)) (by kernel_rfl) Za2),trivial⟩) (by kernel_rfl) Zlx Zpw rfl (by decide) (by decide) rfl (by decide) rfl Z6z (fun x=>by kernel_rfl)
abbrev Zlo:Shape:={ sl:=sl_4,bl:=bl_0,ts:=[(.slice y2),y39],pin:=0 }
abbrev Zpn:Shape:={ sl:=sl_1,bl:=bl_0,ts:=[.bool,y39],pin:=1 }
def Z6h (x:(List T0 × T47)):Option (Bool × T47) :=
 (Z6z (x.1,x.2)).bind fun r13 =>
 some ((decide (r13.1 ≥ (0:Int))),r13.2)
abbrev Ztl:=Spec.shp Zlo Zpn Z6h
def Zet:Ctx:={ tb:=mkTb T2.tbl,fx:=[(222,[194],Ztu)],sum:=[],nt:=9,pin:=1,nr:=true,ys:=[] }
theorem Z6i:Sound Tryz.prog 193 (Ztl) :=
 Sound.shp (C:=Zet) (fn:=Tryz.f193) (by kernel_rfl) (c:=bodyOf Tryz.f193) (by kernel_rfl) (by decide) (ctxOK mixed tbl_ok rfl ⟨Z70,trivial⟩ trivial) (SumOK.of trivial) (by kernel_rfl) Zlo Zpn rfl (by decide) (by decide) rfl (by decide) rfl Z6h (fun x=>by kernel_rfl)
abbrev Zi3:Shape:={ sl:=[(1,(.ptr 0 [])),(45,(.hole (.slice y9))),(46,(.hole (.int .i64))),(47,(.hole (.int .i64)))],bl:=bl_0,ts:=ts_4,pin:=0 }
abbrev Zgt:List (ETag × Shape):=[(.ret,{ sl:=sl_5,bl:=[],ts:=ts_5,pin:=0 }),(.exit 0,{ sl:=[],bl:=[],ts:=[],pin:=0 })]
def Z9v (x:T53):Option (T53 ⊕ ((Int × Int) ⊕ Unit)) :=
 bif (decide (x.2.2.1 < x.2.1)) then
 bif (inb x.2.2.1 (List.length x.1)) then
 bif (decide ((((List.length (getAt (([]:List T0),false) x.1 (toN x.2.2.1)).1):Nat):Int) > (4:Int))) then
 some (.inr (.inl (x.2.2.1,(2:Int))))
 else
 (Z6h ((getAt (([]:List T0),false) x.1 (toN x.2.2.1)).1,x.2.2.2)).bind fun r12 =>
 bif r12.1 then
 some (.inr (.inl (x.2.2.1,(3:Int))))
 else
 some (.inl (x.1,x.2.1,(IntKind.wrap .i64 (x.2.2.1+(1:Int))),r12.2))
 else
 none
 else
 some (.inr (.inr ()))
def Zea:Ctx:={ tb:=mkTb T2.tbl,fx:=[(191,[],Zsu),(86,[192],Ztr),(193,[194],Ztl)],sum:=[],nt:=65,pin:=0,nr:=true,ys:=[] }
theorem Z9w:CSound Tryz.prog ⟨65,0,true⟩ (.loop (loopOf 8 Tryz.f154)) (Yav Zi3 Zgt (loop Z9v)) :=
 Y8e (C:=Zea) (ctxOK mixed tbl_ok rfl ⟨Z4y,Z6u,Z6i,trivial⟩ trivial) (SumOK.of trivial) Zi3 Zgt rfl rfl Z9v (fun x=>by kernel_rfl)
abbrev Zl4:Shape:={ sl:=sl_6,bl:=[],ts:=[y39],pin:=0 }
abbrev Zp3:Shape:={ sl:=sl_7,bl:=[],ts:=ts_5,pin:=0 }
def Z5d (x:(T47)):Option (Int × Int) :=
 bif (decide ((((List.length x.1):Nat):Int) ≤ (4:Int))) then
 (Z4x (x.2.1,(0:Int),(2:Int))).bind fun r6 =>
 bif r6 then
 (Z4x (x.2.2.1,(0:Int),(2:Int))).bind fun r7 =>
 bif r7 then
 (Z4x (x.2.2.2.1,(0:Int),(4:Int))).bind fun r8 =>
 bif (Bool.not r8) then
 some ((Int.negSucc 0),(2:Int))
 else
 bif (decide ((((List.length x.2.2.2.2.1):Nat):Int) > (4:Int))) then
 some ((Int.negSucc 0),(2:Int))
 else
 (Z4x ((((List.length x.2.2.2.2.2):Nat):Int),(1:Int),(6:Int))).bind fun r9 =>
 bif (Bool.not r9) then
 some ((Int.negSucc 0),(2:Int))
 else
 (Z6t x.1).bind fun r10 =>
 bif r10 then
 some ((Int.negSucc 0),(3:Int))
 else
 (loop Z9v (x.2.2.2.2.1,(((List.length x.2.2.2.2.1):Nat):Int),(0:Int),x)).bind fun r11 =>
 match r11 with
 | .inl y12 =>
 some (y12.1,y12.2)
 | .inr y12 =>
 some ((Int.negSucc 0),(0:Int))
 else
 some ((Int.negSucc 0),(2:Int))
 else
 some ((Int.negSucc 0),(2:Int))
 else
 some ((Int.negSucc 0),(2:Int))
abbrev Zt2:=Spec.shp Zl4 Zp3 Z5d
def Ze7:Ctx:={ tb:=mkTb T2.tbl,fx:=[(191,[],Zsu),(86,[192],Ztr),(193,[194],Ztl)],sum:=[(0,8,Yav Zi3 Zgt (loop Z9v))],nt:=65,pin:=0,nr:=true,ys:=[] }
theorem Z5i:Sound Tryz.prog 154 (Zt2) :=
 Sound.shp (C:=Ze7) (fn:=Tryz.f154) (by kernel_rfl) (c:=bodyOf Tryz.f154) (by kernel_rfl) (by decide) (ctxOK mixed tbl_ok rfl ⟨Z4y,Z6u,Z6i,trivial⟩ trivial) (SumOK.of ⟨(Yax (d:=.loop (loopOf 8 Tryz.f154)) (by kernel_rfl) Z9w),trivial⟩) (by kernel_rfl) Zl4 Zp3 rfl (by decide) (by decide) rfl (by decide) rfl Z5d (fun x=>by kernel_rfl)
abbrev Zl1:Shape:={ sl:=[],bl:=[],ts:=[],pin:=0 }
abbrev Zp0:Shape:={ sl:=[(0,(.pr (.one (.fn 223 .nil .nil)) (.pr (.one (.fn 224 .nil .nil)) (.pr (.one (.fn 224 .nil .nil)) (.pr (.one (.fn 224 .nil .nil)) (.pr (.one (.fn 225 .nil .nil)) (.pr (.one (.fn 226 .nil .nil)) (.pr (.one (.fn 226 .nil .nil)) (.pr (.one (.fn 227 .nil .nil)) (.pr (.one (.fn 227 .nil .nil)) (.pr (.one (.fn 228 .nil .nil)) (.pr (.one (.fn 229 .nil .nil)) (.pr (.one (.fn 229 .nil .nil)) (.pr (.one (.fn 230 .nil .nil)) (.one (.fn 230 .nil .nil))))))))))))))))],bl:=[],ts:=[],pin:=0 }
def Z57 (x:Unit):Option Unit :=
 some ()
abbrev Zsz:=Spec.shp Zl1 Zp0 Z57
def Ze4:Ctx:={ tb:=mkTb T2.tbl,fx:=[],sum:=[],nt:=16,pin:=0,nr:=true,ys:=[] }
theorem Z58:Sound Tryz.prog 195 (Zsz) :=
 Sound.shp (C:=Ze4) (fn:=Tryz.f195) (by kernel_rfl) (c:=bodyOf Tryz.f195) (by kernel_rfl) (by decide) (ctxOK mixed tbl_ok rfl trivial trivial) (SumOK.of trivial) (by kernel_rfl) Zl1 Zp0 rfl (by decide) (by decide) rfl (by decide) rfl Z57 (fun x=>by kernel_rfl)
abbrev Zkz:Shape:={ sl:=sl_8,bl:=[],ts:=ts_6,pin:=0 }
abbrev Zoy:Shape:={ sl:=sl_2,bl:=[],ts:=ts_2,pin:=0 }
def Z53 (x:T50):Option (Int) :=
 some (1:Int)
abbrev Zsx:=Spec.shp Zkz Zoy Z53
def Ze2:Ctx:={ tb:=mkTb T2.tbl,fx:=[],sum:=[],nt:=5,pin:=0,nr:=true,ys:=[] }
theorem Z54:Sound Tryz.prog 223 (Zsx) :=
 Sound.shp (C:=Ze2) (fn:=Tryz.f223) (by kernel_rfl) (c:=bodyOf Tryz.f223) (by kernel_rfl) (by decide) (ctxOK mixed tbl_ok rfl trivial trivial) (SumOK.of trivial) (by kernel_rfl) Zkz Zoy rfl (by decide) (by decide) rfl (by decide) rfl Z53 (fun x=>by kernel_rfl)
abbrev Zkv:Shape:={ sl:=sl_8,bl:=[],ts:=ts_6,pin:=0 }
abbrev Zou:Shape:={ sl:=sl_2,bl:=[],ts:=ts_2,pin:=0 }
def Z4v (x:T50):Option (Int) :=
 some (((List.length x.1.1):Nat):Int)
abbrev Zst:=Spec.shp Zkv Zou Z4v
def Zdy:Ctx:={ tb:=mkTb T2.tbl,fx:=[],sum:=[],nt:=8,pin:=0,nr:=true,ys:=[] }
theorem Z4w:Sound Tryz.prog 224 (Zst) :=
 Sound.shp (C:=Zdy) (fn:=Tryz.f224) (by kernel_rfl) (c:=bodyOf Tryz.f224) (by kernel_rfl) (by decide) (ctxOK mixed tbl_ok rfl trivial trivial) (SumOK.of trivial) (by kernel_rfl) Zkv Zou rfl (by decide) (by decide) rfl (by decide) rfl Z4v (fun x=>by kernel_rfl)
abbrev Zl3:Shape:={ sl:=sl_8,bl:=[],ts:=ts_6,pin:=0 }
abbrev Zp2:Shape:={ sl:=sl_2,bl:=[],ts:=ts_2,pin:=0 }
def Z5b (x:T50):Option (Int) :=
 some (((List.length x.1.2.2.2.2.1):Nat):Int)
abbrev Zt1:=Spec.shp Zl3 Zp2 Z5b
def Ze6:Ctx:={ tb:=mkTb T2.tbl,fx:=[],sum:=[],nt:=8,pin:=0,nr:=true,ys:=[] }
theorem Z5c:Sound Tryz.prog 225 (Zt1) :=
 Sound.shp (C:=Ze6) (fn:=Tryz.f225) (by kernel_rfl) (c:=bodyOf Tryz.f225) (by kernel_rfl) (by decide) (ctxOK mixed tbl_ok rfl trivial trivial) (SumOK.of trivial) (by kernel_rfl) Zl3 Zp2 rfl (by decide) (by decide) rfl (by decide) rfl Z5b (fun x=>by kernel_rfl)
abbrev Zky:Shape:={ sl:=sl_8,bl:=[],ts:=ts_6,pin:=0 }
abbrev Zox:Shape:={ sl:=sl_2,bl:=[],ts:=ts_2,pin:=0 }
def Z51 (x:T50):Option (Int) :=
 some x.1.2.1
abbrev Zsw:=Spec.shp Zky Zox Z51
def Ze1:Ctx:={ tb:=mkTb T2.tbl,fx:=[],sum:=[],nt:=7,pin:=0,nr:=true,ys:=[] }
theorem Z52:Sound Tryz.prog 226 (Zsw) :=
 Sound.shp (C:=Ze1) (fn:=Tryz.f226) (by kernel_rfl) (c:=bodyOf Tryz.f226) (by kernel_rfl) (by decide) (ctxOK mixed tbl_ok rfl trivial trivial) (SumOK.of trivial) (by kernel_rfl) Zky Zox rfl (by decide) (by decide) rfl (by decide) rfl Z51 (fun x=>by kernel_rfl)
abbrev Zl0:Shape:={ sl:=sl_8,bl:=[],ts:=ts_6,pin:=0 }
abbrev Zoz:Shape:={ sl:=sl_2,bl:=[],ts:=ts_2,pin:=0 }
def Z55 (x:T50):Option (Int) :=
 some x.1.2.2.1
abbrev Zsy:=Spec.shp Zl0 Zoz Z55
def Ze3:Ctx:={ tb:=mkTb T2.tbl,fx:=[],sum:=[],nt:=7,pin:=0,nr:=true,ys:=[] }
theorem Z56:Sound Tryz.prog 227 (Zsy) :=
 Sound.shp (C:=Ze3) (fn:=Tryz.f227) (by kernel_rfl) (c:=bodyOf Tryz.f227) (by kernel_rfl) (by decide) (ctxOK mixed tbl_ok rfl trivial trivial) (SumOK.of trivial) (by kernel_rfl) Zl0 Zoz rfl (by decide) (by decide) rfl (by decide) rfl Z55 (fun x=>by kernel_rfl)
abbrev Zku:Shape:={ sl:=sl_8,bl:=[],ts:=ts_6,pin:=0 }
abbrev Zot:Shape:={ sl:=sl_2,bl:=[],ts:=ts_2,pin:=0 }
def Z4t (x:T50):Option (Int) :=
 some (((List.length x.1.2.2.2.2.2):Nat):Int)
abbrev Zss:=Spec.shp Zku Zot Z4t
def Zdx:Ctx:={ tb:=mkTb T2.tbl,fx:=[],sum:=[],nt:=8,pin:=0,nr:=true,ys:=[] }
theorem Z4u:Sound Tryz.prog 228 (Zss) :=
 Sound.shp (C:=Zdx) (fn:=Tryz.f228) (by kernel_rfl) (c:=bodyOf Tryz.f228) (by kernel_rfl) (by decide) (ctxOK mixed tbl_ok rfl trivial trivial) (SumOK.of trivial) (by kernel_rfl) Zku Zot rfl (by decide) (by decide) rfl (by decide) rfl Z4t (fun x=>by kernel_rfl)
abbrev Zl7:Shape:={ sl:=sl_8,bl:=[],ts:=ts_6,pin:=0 }
abbrev Zp6:Shape:={ sl:=sl_2,bl:=[],ts:=ts_2,pin:=0 }
def Z5j (x:T50):Option (Int) :=
 some x.1.2.2.2.1
abbrev Zt5:=Spec.shp Zl7 Zp6 Z5j
def Zeb:Ctx:={ tb:=mkTb T2.tbl,fx:=[],sum:=[],nt:=7,pin:=0,nr:=true,ys:=[] }
theorem Z5k:Sound Tryz.prog 229 (Zt5) :=
 Sound.shp (C:=Zeb) (fn:=Tryz.f229) (by kernel_rfl) (c:=bodyOf Tryz.f229) (by kernel_rfl) (by decide) (ctxOK mixed tbl_ok rfl trivial trivial) (SumOK.of trivial) (by kernel_rfl) Zl7 Zp6 rfl (by decide) (by decide) rfl (by decide) rfl Z5j (fun x=>by kernel_rfl)
abbrev Zl2:Shape:={ sl:=sl_8,bl:=[],ts:=ts_6,pin:=0 }
abbrev Zp1:Shape:={ sl:=sl_2,bl:=[],ts:=ts_2,pin:=0 }
def Z59 (x:T50):Option (Int) :=
 some (IntKind.wrap .i64 ((((List.length x.2):Nat):Int)+(1:Int)))
abbrev Zt0:=Spec.shp Zl2 Zp1 Z59
def Ze5:Ctx:={ tb:=mkTb T2.tbl,fx:=[],sum:=[],nt:=8,pin:=0,nr:=true,ys:=[] }
theorem Z5a:Sound Tryz.prog 230 (Zt0) :=
 Sound.shp (C:=Ze5) (fn:=Tryz.f230) (by kernel_rfl) (c:=bodyOf Tryz.f230) (by kernel_rfl) (by decide) (ctxOK mixed tbl_ok rfl trivial trivial) (SumOK.of trivial) (by kernel_rfl) Zl2 Zp1 rfl (by decide) (by decide) rfl (by decide) rfl Z59 (fun x=>by kernel_rfl)
abbrev Zkx:Shape:={ sl:=[(0,(.hole y39)),(1,(.hole (.slice y5))),(2,(.hole y5))],bl:=[],ts:=[y39,(.slice y5),y5],pin:=0 }
abbrev Zow:Shape:={ sl:=sl_2,bl:=[],ts:=ts_2,pin:=0 }
def Z4z (x:(T47 × List (T7) × T7)):Option (Int) :=
 (Z4x (x.2.2.1,(0:Int),(13:Int))).bind fun r9 =>
 bif (Bool.not r9) then
 some (11:Int)
 else
 bif (x.2.2.1 == (7:Int)) then
 (Z57 ()).bind fun r10 =>
 bif (x.2.2.1 == (((0:Nat):Nat):Int)) then
 (Z53 (x.1,x.2.1)).bind fun r11 =>
 (Z4x (x.2.2.2.1,(0:Int),(IntKind.wrap .i64 (r11 - (1:Int))))).bind fun r12 =>
 bif (Bool.not r12) then
 some (3:Int)
 else
 (Z4x (x.2.2.2.2,(0:Int),(((List.length x.2.1):Nat):Int))).bind fun r13 =>
 bif (Bool.not r13) then
 some (3:Int)
 else
 some (0:Int)
 else
 bif (x.2.2.1 == ((((0:Nat)+(1:Nat)):Nat):Int)) then
 (Z4v (x.1,x.2.1)).bind fun r11 =>
 (Z4x (x.2.2.2.1,(0:Int),(IntKind.wrap .i64 (r11 - (1:Int))))).bind fun r12 =>
 bif (Bool.not r12) then
 some (3:Int)
 else
 (Z4x (x.2.2.2.2,(0:Int),(((List.length x.2.1):Nat):Int))).bind fun r13 =>
 bif (Bool.not r13) then
 some (3:Int)
 else
 some (0:Int)
 else
 bif (x.2.2.1 == (((((0:Nat)+(1:Nat))+(1:Nat)):Nat):Int)) then
 (Z4v (x.1,x.2.1)).bind fun r11 =>
 (Z4x (x.2.2.2.1,(0:Int),(IntKind.wrap .i64 (r11 - (1:Int))))).bind fun r12 =>
 bif (Bool.not r12) then
 some (3:Int)
 else
 (Z4x (x.2.2.2.2,(0:Int),(((List.length x.2.1):Nat):Int))).bind fun r13 =>
 bif (Bool.not r13) then
 some (3:Int)
 else
 some (0:Int)
 else
 bif (x.2.2.1 == ((((((0:Nat)+(1:Nat))+(1:Nat))+(1:Nat)):Nat):Int)) then
 (Z4v (x.1,x.2.1)).bind fun r11 =>
 (Z4x (x.2.2.2.1,(0:Int),(IntKind.wrap .i64 (r11 - (1:Int))))).bind fun r12 =>
 bif (Bool.not r12) then
 some (3:Int)
 else
 (Z4x (x.2.2.2.2,(0:Int),(((List.length x.2.1):Nat):Int))).bind fun r13 =>
 bif (Bool.not r13) then
 some (3:Int)
 else
 some (0:Int)
 else
 bif (x.2.2.1 == (((((((0:Nat)+(1:Nat))+(1:Nat))+(1:Nat))+(1:Nat)):Nat):Int)) then
 (Z5b (x.1,x.2.1)).bind fun r11 =>
 (Z4x (x.2.2.2.1,(0:Int),(IntKind.wrap .i64 (r11 - (1:Int))))).bind fun r12 =>
 bif (Bool.not r12) then
 some (3:Int)
 else
 (Z4x (x.2.2.2.2,(0:Int),(((List.length x.2.1):Nat):Int))).bind fun r13 =>
 bif (Bool.not r13) then
 some (3:Int)
 else
 some (0:Int)
 else
 bif (x.2.2.1 == ((((((((0:Nat)+(1:Nat))+(1:Nat))+(1:Nat))+(1:Nat))+(1:Nat)):Nat):Int)) then
 (Z51 (x.1,x.2.1)).bind fun r11 =>
 (Z4x (x.2.2.2.1,(0:Int),(IntKind.wrap .i64 (r11 - (1:Int))))).bind fun r12 =>
 bif (Bool.not r12) then
 some (3:Int)
 else
 (Z4x (x.2.2.2.2,(0:Int),(((List.length x.2.1):Nat):Int))).bind fun r13 =>
 bif (Bool.not r13) then
 some (3:Int)
 else
 some (0:Int)
 else
 bif (x.2.2.1 == (((((((((0:Nat)+(1:Nat))+(1:Nat))+(1:Nat))+(1:Nat))+(1:Nat))+(1:Nat)):Nat):Int)) then
 (Z51 (x.1,x.2.1)).bind fun r11 =>
 (Z4x (x.2.2.2.1,(0:Int),(IntKind.wrap .i64 (r11 - (1:Int))))).bind fun r12 =>
 bif (Bool.not r12) then
 some (3:Int)
 else
 (Z4x (x.2.2.2.2,(0:Int),(((List.length x.2.1):Nat):Int))).bind fun r13 =>
 bif (Bool.not r13) then
 some (3:Int)
 else
 some (0:Int)
 else
 bif (x.2.2.1 == ((((((((((0:Nat)+(1:Nat))+(1:Nat))+(1:Nat))+(1:Nat))+(1:Nat))+(1:Nat))+(1:Nat)):Nat):Int)) then
 (Z55 (x.1,x.2.1)).bind fun r11 =>
 (Z4x (x.2.2.2.1,(0:Int),(IntKind.wrap .i64 (r11 - (1:Int))))).bind fun r12 =>
 bif (Bool.not r12) then
 some (3:Int)
 else
 (Z4x (x.2.2.2.2,(0:Int),(((List.length x.2.1):Nat):Int))).bind fun r13 =>
 bif (Bool.not r13) then
 some (3:Int)
 else
 some (0:Int)
 else
 bif (x.2.2.1 == (((((((((((0:Nat)+(1:Nat))+(1:Nat))+(1:Nat))+(1:Nat))+(1:Nat))+(1:Nat))+(1:Nat))+(1:Nat)):Nat):Int)) then
 (Z55 (x.1,x.2.1)).bind fun r11 =>
 (Z4x (x.2.2.2.1,(0:Int),(IntKind.wrap .i64 (r11 - (1:Int))))).bind fun r12 =>
 bif (Bool.not r12) then
 some (3:Int)
 else
 (Z4x (x.2.2.2.2,(0:Int),(((List.length x.2.1):Nat):Int))).bind fun r13 =>
 bif (Bool.not r13) then
 some (3:Int)
 else
 some (0:Int)
 else
 bif (x.2.2.1 == ((((((((((((0:Nat)+(1:Nat))+(1:Nat))+(1:Nat))+(1:Nat))+(1:Nat))+(1:Nat))+(1:Nat))+(1:Nat))+(1:Nat)):Nat):Int)) then
 (Z4t (x.1,x.2.1)).bind fun r11 =>
 (Z4x (x.2.2.2.1,(0:Int),(IntKind.wrap .i64 (r11 - (1:Int))))).bind fun r12 =>
 bif (Bool.not r12) then
 some (3:Int)
 else
 (Z4x (x.2.2.2.2,(0:Int),(((List.length x.2.1):Nat):Int))).bind fun r13 =>
 bif (Bool.not r13) then
 some (3:Int)
 else
 some (0:Int)
 else
 bif (x.2.2.1 == (((((((((((((0:Nat)+(1:Nat))+(1:Nat))+(1:Nat))+(1:Nat))+(1:Nat))+(1:Nat))+(1:Nat))+(1:Nat))+(1:Nat))+(1:Nat)):Nat):Int)) then
 (Z5j (x.1,x.2.1)).bind fun r11 =>
 (Z4x (x.2.2.2.1,(0:Int),(IntKind.wrap .i64 (r11 - (1:Int))))).bind fun r12 =>
 bif (Bool.not r12) then
 some (3:Int)
 else
 (Z4x (x.2.2.2.2,(0:Int),(((List.length x.2.1):Nat):Int))).bind fun r13 =>
 bif (Bool.not r13) then
 some (3:Int)
 else
 some (0:Int)
 else
 bif (x.2.2.1 == ((((((((((((((0:Nat)+(1:Nat))+(1:Nat))+(1:Nat))+(1:Nat))+(1:Nat))+(1:Nat))+(1:Nat))+(1:Nat))+(1:Nat))+(1:Nat))+(1:Nat)):Nat):Int)) then
 (Z5j (x.1,x.2.1)).bind fun r11 =>
 (Z4x (x.2.2.2.1,(0:Int),(IntKind.wrap .i64 (r11 - (1:Int))))).bind fun r12 =>
 bif (Bool.not r12) then
 some (3:Int)
 else
 (Z4x (x.2.2.2.2,(0:Int),(((List.length x.2.1):Nat):Int))).bind fun r13 =>
 bif (Bool.not r13) then
 some (3:Int)
 else
 some (0:Int)
 else
 bif (x.2.2.1 == (((((((((((((((0:Nat)+(1:Nat))+(1:Nat))+(1:Nat))+(1:Nat))+(1:Nat))+(1:Nat))+(1:Nat))+(1:Nat))+(1:Nat))+(1:Nat))+(1:Nat))+(1:Nat)):Nat):Int)) then
 (Z59 (x.1,x.2.1)).bind fun r11 =>
 (Z4x (x.2.2.2.1,(0:Int),(IntKind.wrap .i64 (r11 - (1:Int))))).bind fun r12 =>
 bif (Bool.not r12) then
 some (3:Int)
 else
 (Z4x (x.2.2.2.2,(0:Int),(((List.length x.2.1):Nat):Int))).bind fun r13 =>
 bif (Bool.not r13) then
 some (3:Int)
 else
 some (0:Int)
 else
 bif (x.2.2.1 == ((((((((((((((((0:Nat)+(1:Nat))+(1:Nat))+(1:Nat))+(1:Nat))+(1:Nat))+(1:Nat))+(1:Nat))+(1:Nat))+(1:Nat))+(1:Nat))+(1:Nat))+(1:Nat))+(1:Nat)):Nat):Int)) then
 (Z59 (x.1,x.2.1)).bind fun r11 =>
 (Z4x (x.2.2.2.1,(0:Int),(IntKind.wrap .i64 (r11 - (1:Int))))).bind fun r12 =>
 bif (Bool.not r12) then
 some (3:Int)
 else
 (Z4x (x.2.2.2.2,(0:Int),(((List.length x.2.1):Nat):Int))).bind fun r13 =>
 bif (Bool.not r13) then
 some (3:Int)
 else
 some (0:Int)
 else
 none
 else
 (Z57 ()).bind fun r10 =>
 bif (x.2.2.1 == (((0:Nat):Nat):Int)) then
 (Z53 (x.1,x.2.1)).bind fun r11 =>
 (Z4x (x.2.2.2.1,(0:Int),(IntKind.wrap .i64 (r11 - (1:Int))))).bind fun r12 =>
 bif (Bool.not r12) then
 some (3:Int)
 else
 (Z4x (x.2.2.2.2,(0:Int),(0:Int))).bind fun r13 =>
 bif (Bool.not r13) then
 some (3:Int)
 else
 some (0:Int)
 else
 bif (x.2.2.1 == ((((0:Nat)+(1:Nat)):Nat):Int)) then
 (Z4v (x.1,x.2.1)).bind fun r11 =>
 (Z4x (x.2.2.2.1,(0:Int),(IntKind.wrap .i64 (r11 - (1:Int))))).bind fun r12 =>
 bif (Bool.not r12) then
 some (3:Int)
 else
 (Z4x (x.2.2.2.2,(0:Int),(0:Int))).bind fun r13 =>
 bif (Bool.not r13) then
 some (3:Int)
 else
 some (0:Int)
 else
 bif (x.2.2.1 == (((((0:Nat)+(1:Nat))+(1:Nat)):Nat):Int)) then
 (Z4v (x.1,x.2.1)).bind fun r11 =>
 (Z4x (x.2.2.2.1,(0:Int),(IntKind.wrap .i64 (r11 - (1:Int))))).bind fun r12 =>
 bif (Bool.not r12) then
 some (3:Int)
 else
 (Z4x (x.2.2.2.2,(0:Int),(0:Int))).bind fun r13 =>
 bif (Bool.not r13) then
 some (3:Int)
 else
 some (0:Int)
 else
 bif (x.2.2.1 == ((((((0:Nat)+(1:Nat))+(1:Nat))+(1:Nat)):Nat):Int)) then
 (Z4v (x.1,x.2.1)).bind fun r11 =>
 (Z4x (x.2.2.2.1,(0:Int),(IntKind.wrap .i64 (r11 - (1:Int))))).bind fun r12 =>
 bif (Bool.not r12) then
 some (3:Int)
 else
 (Z4x (x.2.2.2.2,(0:Int),(0:Int))).bind fun r13 =>
 bif (Bool.not r13) then
 some (3:Int)
 else
 some (0:Int)
 else
 bif (x.2.2.1 == (((((((0:Nat)+(1:Nat))+(1:Nat))+(1:Nat))+(1:Nat)):Nat):Int)) then
 (Z5b (x.1,x.2.1)).bind fun r11 =>
 (Z4x (x.2.2.2.1,(0:Int),(IntKind.wrap .i64 (r11 - (1:Int))))).bind fun r12 =>
 bif (Bool.not r12) then
 some (3:Int)
 else
 (Z4x (x.2.2.2.2,(0:Int),(0:Int))).bind fun r13 =>
 bif (Bool.not r13) then
 some (3:Int)
 else
 some (0:Int)
 else
 bif (x.2.2.1 == ((((((((0:Nat)+(1:Nat))+(1:Nat))+(1:Nat))+(1:Nat))+(1:Nat)):Nat):Int)) then
 (Z51 (x.1,x.2.1)).bind fun r11 =>
 (Z4x (x.2.2.2.1,(0:Int),(IntKind.wrap .i64 (r11 - (1:Int))))).bind fun r12 =>
 bif (Bool.not r12) then
 some (3:Int)
 else
 (Z4x (x.2.2.2.2,(0:Int),(0:Int))).bind fun r13 =>
 bif (Bool.not r13) then
 some (3:Int)
 else
 some (0:Int)
 else
 bif (x.2.2.1 == (((((((((0:Nat)+(1:Nat))+(1:Nat))+(1:Nat))+(1:Nat))+(1:Nat))+(1:Nat)):Nat):Int)) then
 (Z51 (x.1,x.2.1)).bind fun r11 =>
 (Z4x (x.2.2.2.1,(0:Int),(IntKind.wrap .i64 (r11 - (1:Int))))).bind fun r12 =>
 bif (Bool.not r12) then
 some (3:Int)
 else
 (Z4x (x.2.2.2.2,(0:Int),(0:Int))).bind fun r13 =>
 bif (Bool.not r13) then
 some (3:Int)
 else
 some (0:Int)
 else
 bif (x.2.2.1 == ((((((((((0:Nat)+(1:Nat))+(1:Nat))+(1:Nat))+(1:Nat))+(1:Nat))+(1:Nat))+(1:Nat)):Nat):Int)) then
 (Z55 (x.1,x.2.1)).bind fun r11 =>
 (Z4x (x.2.2.2.1,(0:Int),(IntKind.wrap .i64 (r11 - (1:Int))))).bind fun r12 =>
 bif (Bool.not r12) then
 some (3:Int)
 else
 (Z4x (x.2.2.2.2,(0:Int),(0:Int))).bind fun r13 =>
 bif (Bool.not r13) then
 some (3:Int)
 else
 some (0:Int)
 else
 bif (x.2.2.1 == (((((((((((0:Nat)+(1:Nat))+(1:Nat))+(1:Nat))+(1:Nat))+(1:Nat))+(1:Nat))+(1:Nat))+(1:Nat)):Nat):Int)) then
 (Z55 (x.1,x.2.1)).bind fun r11 =>
 (Z4x (x.2.2.2.1,(0:Int),(IntKind.wrap .i64 (r11 - (1:Int))))).bind fun r12 =>
 bif (Bool.not r12) then
 some (3:Int)
 else
 (Z4x (x.2.2.2.2,(0:Int),(0:Int))).bind fun r13 =>
 bif (Bool.not r13) then
 some (3:Int)
 else
 some (0:Int)
 else
 bif (x.2.2.1 == ((((((((((((0:Nat)+(1:Nat))+(1:Nat))+(1:Nat))+(1:Nat))+(1:Nat))+(1:Nat))+(1:Nat))+(1:Nat))+(1:Nat)):Nat):Int)) then
 (Z4t (x.1,x.2.1)).bind fun r11 =>
 (Z4x (x.2.2.2.1,(0:Int),(IntKind.wrap .i64 (r11 - (1:Int))))).bind fun r12 =>
 bif (Bool.not r12) then
 some (3:Int)
 else
 (Z4x (x.2.2.2.2,(0:Int),(0:Int))).bind fun r13 =>
 bif (Bool.not r13) then
 some (3:Int)
 else
 some (0:Int)
 else
 bif (x.2.2.1 == (((((((((((((0:Nat)+(1:Nat))+(1:Nat))+(1:Nat))+(1:Nat))+(1:Nat))+(1:Nat))+(1:Nat))+(1:Nat))+(1:Nat))+(1:Nat)):Nat):Int)) then
 (Z5j (x.1,x.2.1)).bind fun r11 =>
 (Z4x (x.2.2.2.1,(0:Int),(IntKind.wrap .i64 (r11 - (1:Int))))).bind fun r12 =>
 bif (Bool.not r12) then
 some (3:Int)
 else
 (Z4x (x.2.2.2.2,(0:Int),(0:Int))).bind fun r13 =>
 bif (Bool.not r13) then
 some (3:Int)
 else
 some (0:Int)
 else
 bif (x.2.2.1 == ((((((((((((((0:Nat)+(1:Nat))+(1:Nat))+(1:Nat))+(1:Nat))+(1:Nat))+(1:Nat))+(1:Nat))+(1:Nat))+(1:Nat))+(1:Nat))+(1:Nat)):Nat):Int)) then
 (Z5j (x.1,x.2.1)).bind fun r11 =>
 (Z4x (x.2.2.2.1,(0:Int),(IntKind.wrap .i64 (r11 - (1:Int))))).bind fun r12 =>
 bif (Bool.not r12) then
 some (3:Int)
 else
 (Z4x (x.2.2.2.2,(0:Int),(0:Int))).bind fun r13 =>
 bif (Bool.not r13) then
 some (3:Int)
 else
 some (0:Int)
 else
 bif (x.2.2.1 == (((((((((((((((0:Nat)+(1:Nat))+(1:Nat))+(1:Nat))+(1:Nat))+(1:Nat))+(1:Nat))+(1:Nat))+(1:Nat))+(1:Nat))+(1:Nat))+(1:Nat))+(1:Nat)):Nat):Int)) then
 (Z59 (x.1,x.2.1)).bind fun r11 =>
 (Z4x (x.2.2.2.1,(0:Int),(IntKind.wrap .i64 (r11 - (1:Int))))).bind fun r12 =>
 bif (Bool.not r12) then
 some (3:Int)
 else
 (Z4x (x.2.2.2.2,(0:Int),(0:Int))).bind fun r13 =>
 bif (Bool.not r13) then
 some (3:Int)
 else
 some (0:Int)
 else
 bif (x.2.2.1 == ((((((((((((((((0:Nat)+(1:Nat))+(1:Nat))+(1:Nat))+(1:Nat))+(1:Nat))+(1:Nat))+(1:Nat))+(1:Nat))+(1:Nat))+(1:Nat))+(1:Nat))+(1:Nat))+(1:Nat)):Nat):Int)) then
 (Z59 (x.1,x.2.1)).bind fun r11 =>
 (Z4x (x.2.2.2.1,(0:Int),(IntKind.wrap .i64 (r11 - (1:Int))))).bind fun r12 =>
 bif (Bool.not r12) then
 some (3:Int)
 else
 (Z4x (x.2.2.2.2,(0:Int),(0:Int))).bind fun r13 =>
 bif (Bool.not r13) then
 some (3:Int)
 else
 some (0:Int)
 else
 none
abbrev Zsv:=Spec.shp Zkx Zow Z4z
def Ze0:Ctx:={ tb:=mkTb T2.tbl,fx:=[(191,[],Zsu),(195,[],Zsz),(223,[],Zsx),(224,[],Zst),(225,[],Zt1),(226,[],Zsw),(227,[],Zsy),(228,[],Zss),(229,[],Zt5),(230,[],Zt0)],sum:=[],nt:=37,pin:=0,nr:=true,ys:=[] }
theorem Z50:Sound Tryz.prog 155 (Zsv) :=
 Sound.shp (C:=Ze0) (fn:=Tryz.f155) (by kernel_rfl) (c:=bodyOf Tryz.f155) (by kernel_rfl) (by decide) (ctxOK mixed tbl_ok rfl ⟨Z4y,Z58,Z54,Z4w,Z5c,Z52,Z56,Z4u,Z5k,Z5a,trivial⟩ trivial) (SumOK.of trivial) (by kernel_rfl) Zkx Zow rfl (by decide) (by decide) rfl (by decide) rfl Z4z (fun x=>by kernel_rfl)
abbrev Zi1:Shape:={ sl:=sl_9,bl:=bl_0,ts:=ts_7,pin:=0 }
abbrev Zgr:List (ETag × Shape):=[(.ret,{ sl:=sl_10,bl:=[],ts:=ts_0,pin:=0 }),(.exit 2,{ sl:=sl_11,bl:=bl_0,ts:=ts_8,pin:=0 })]
def Z9r (x:T56):Option (T56 ⊕ (T4 ⊕ T54)) :=
 bif (decide (x.2.2.2.2.2.2.2.1 < x.2.2.2.2.2.2.1)) then
 bif (inb x.2.2.2.2.2.2.2.1 (List.length x.2.2.2.2.2.1)) then
 (Z4z (x.2.2.2.2.2.2.2.2,x.2.1,(getAt ((0:Int),(0:Int),(0:Int)) x.2.2.2.2.2.1 (toN x.2.2.2.2.2.2.2.1)))).bind fun r8 =>
 bif (r8 != (0:Int)) then
 some (.inr (.inl (x.1,x.2.2.2.2.2.2.2.1,r8)))
 else
 some (.inl (x.1,x.2.1,x.2.2.1,x.2.2.2.1,x.2.2.2.2.1,x.2.2.2.2.2.1,x.2.2.2.2.2.2.1,(IntKind.wrap .i64 (x.2.2.2.2.2.2.2.1+(1:Int))),x.2.2.2.2.2.2.2.2))
 else
 none
 else
 some (.inr (.inr (x.2.2.1,x.2.2.2.1,x.2.2.2.2.1,x.2.2.2.2.2.2.2.2)))
def Zdv:Ctx:={ tb:=mkTb T2.tbl,fx:=[(154,[],Zt2),(155,[],Zsv)],sum:=[],nt:=51,pin:=0,nr:=true,ys:=[] }
theorem Z9s:CSound Tryz.prog ⟨51,0,true⟩ (.loop (loopOf 11 Tryz.f92)) (Yav Zi1 Zgr (loop Z9r)) :=
 Y8e (C:=Zdv) (ctxOK mixed tbl_ok rfl ⟨Z5i,Z50,trivial⟩ trivial) (SumOK.of trivial) Zi1 Zgr rfl rfl Z9r (fun x=>by kernel_rfl)
abbrev Zi2:Shape:={ sl:=sl_11,bl:=bl_0,ts:=ts_8,pin:=0 }
abbrev Zgs:List (ETag × Shape):=[(.ret,{ sl:=sl_10,bl:=[],ts:=ts_0,pin:=0 }),(.exit 0,{ sl:=[],bl:=[],ts:=[],pin:=0 })]
def Z9t (x:T54):Option (T54 ⊕ (T4 ⊕ Unit)) :=
 bif (decide (x.2.2.1 < x.2.1)) then
 bif (inb x.2.2.1 (List.length x.1)) then
 bif (decide ((((List.length (getAt ([]:List T7) x.1 (toN x.2.2.1))):Nat):Int) > (24:Int))) then
 some (.inr (.inl (x.2.2.1,(Int.negSucc 0),(2:Int))))
 else
 (loop Z9r (x.2.2.1,(getAt ([]:List T7) x.1 (toN x.2.2.1)),x.1,x.2.1,x.2.2.1,(getAt ([]:List T7) x.1 (toN x.2.2.1)),(((List.length (getAt ([]:List T7) x.1 (toN x.2.2.1))):Nat):Int),(0:Int),x.2.2.2)).bind fun r7 =>
 match r7 with
 | .inl y8 =>
 some (.inr (.inl (y8.1,y8.2.1,y8.2.2)))
 | .inr y8 =>
 some (.inl (y8.1,y8.2.1,(IntKind.wrap .i64 (y8.2.2.1+(1:Int))),y8.2.2.2))
 else
 none
 else
 some (.inr (.inr ()))
def Zdw:Ctx:={ tb:=mkTb T2.tbl,fx:=[(154,[],Zt2),(155,[],Zsv)],sum:=[(0,11,Yav Zi1 Zgr (loop Z9r))],nt:=51,pin:=0,nr:=true,ys:=[] }
theorem Z9u:CSound Tryz.prog ⟨51,0,true⟩ (.loop (loopOf 6 Tryz.f92)) (Yav Zi2 Zgs (loop Z9t)) :=
 Y8e (C:=Zdw) (ctxOK mixed tbl_ok rfl ⟨Z5i,Z50,trivial⟩ trivial) (SumOK.of ⟨(Yax (d:=.loop (loopOf 11 Tryz.f92)) (by kernel_rfl) Z9s),trivial⟩) Zi2 Zgs rfl rfl Z9t (fun x=>by kernel_rfl)
abbrev Zkt:Shape:={ sl:=sl_6,bl:=[],ts:=[y39],pin:=0 }
abbrev Zos:Shape:={ sl:=sl_0,bl:=[],ts:=ts_0,pin:=0 }
def Z4r (x:(T47)):Option T4 :=
 (Z5d x).bind fun r5 =>
 bif (r5.2 != (0:Int)) then
 some ((Int.negSucc 0),r5.1,r5.2)
 else
 (loop Z9t (x.2.2.2.2.2,(((List.length x.2.2.2.2.2):Nat):Int),(0:Int),x)).bind fun r6 =>
 match r6 with
 | .inl y7 =>
 some (y7.1,y7.2.1,y7.2.2)
 | .inr y7 =>
 some ((Int.negSucc 0),(Int.negSucc 0),(0:Int))
abbrev Zsr:=Spec.shp Zkt Zos Z4r
def Zdu:Ctx:={ tb:=mkTb T2.tbl,fx:=[(154,[],Zt2),(155,[],Zsv)],sum:=[(0,11,Yav Zi1 Zgr (loop Z9r)),(0,6,Yav Zi2 Zgs (loop Z9t))],nt:=51,pin:=0,nr:=true,ys:=[] }
theorem Z4s:Sound Tryz.prog 92 (Zsr) :=
 Sound.shp (C:=Zdu) (fn:=Tryz.f92) (by kernel_rfl) (c:=bodyOf Tryz.f92) (by kernel_rfl) (by decide) (ctxOK mixed tbl_ok rfl ⟨Z5i,Z50,trivial⟩ trivial) (SumOK.of ⟨(Yax (d:=.loop (loopOf 11 Tryz.f92)) (by kernel_rfl) Z9s),(Yax (d:=.loop (loopOf 6 Tryz.f92)) (by kernel_rfl) Z9u),trivial⟩) (by kernel_rfl) Zkt Zos rfl (by decide) (by decide) rfl (by decide) rfl Z4r (fun x=>by kernel_rfl)
abbrev Zks:Shape:={ sl:=sl_6,bl:=[],ts:=[y39],pin:=0 }
abbrev Zor:Shape:={ sl:=sl_1,bl:=[],ts:=ts_1,pin:=0 }
def Z4p (x:(T47)):Option (Bool) :=
 (Z4r x).bind fun r4 =>
 some (r4.2.2 == (0:Int))
abbrev Zsq:=Spec.shp Zks Zor Z4p
def Zdt:Ctx:={ tb:=mkTb T2.tbl,fx:=[(92,[],Zsr)],sum:=[],nt:=14,pin:=0,nr:=true,ys:=[] }
theorem Z4q:Sound Tryz.prog 38 (Zsq) :=
 Sound.shp (C:=Zdt) (fn:=Tryz.f38) (by kernel_rfl) (c:=bodyOf Tryz.f38) (by kernel_rfl) (by decide) (ctxOK mixed tbl_ok rfl ⟨Z4s,trivial⟩ trivial) (SumOK.of trivial) (by kernel_rfl) Zks Zor rfl (by decide) (by decide) rfl (by decide) rfl Z4p (fun x=>by kernel_rfl)
abbrev Zla:Shape:={ sl:=sl_2,bl:=[],ts:=ts_2,pin:=0 }
abbrev Zp9:Shape:={ sl:=sl_12,bl:=[],ts:=[y21,(.int .i64)],pin:=0 }
def Z5p (x:(Int)):Option (T16 × Int) :=
 bif (decide (x < (0:Int))) then
 some (((0:Int),(0:Int),([]:List Int),(0:Int)),(2:Int))
 else
 bif (decide (x > (8:Int))) then
 some (((0:Int),(0:Int),([]:List Int),(0:Int)),(2:Int))
 else
 bif (mkOK x x) then
 some ((x,(0:Int),(List.replicate (toN x) (0:Int)),(0:Int)),(0:Int))
 else
 none
abbrev Zt7:=Spec.shp Zla Zp9 Z5p
def Zee:Ctx:={ tb:=mkTb T2.tbl,fx:=[],sum:=[],nt:=15,pin:=0,nr:=true,ys:=[] }
theorem Z5q:Sound Tryz.prog 93 (Zt7) :=
 Sound.shp (C:=Zee) (fn:=Tryz.f93) (by kernel_rfl) (c:=bodyOf Tryz.f93) (by kernel_rfl) (by decide) (ctxOK mixed tbl_ok rfl trivial trivial) (SumOK.of trivial) (by kernel_rfl) Zla Zp9 rfl (by decide) (by decide) rfl (by decide) rfl Z5p (fun x=>by kernel_rfl)
abbrev Zij:Shape:={ sl:=sl_2,bl:=[],ts:=ts_2,pin:=0 }
abbrev Zmi:Shape:={ sl:=sl_13,bl:=[],ts:=[y40,(.int .i64)],pin:=0 }
def Z4 (x:(Int)):Option T46 :=
 bif (decide (x < (Int.negSucc 0))) then
 some (((0:Int),false,((0:Int),(0:Int),([]:List Int),(0:Int)),(0:Int),(0:Int),([]:List T7),([]:List T7)),(2:Int))
 else
 bif (decide (x > (3:Int))) then
 some (((0:Int),false,((0:Int),(0:Int),([]:List Int),(0:Int)),(0:Int),(0:Int),([]:List T7),([]:List T7)),(2:Int))
 else
 (Z5p (Max.max x (0:Int))).bind fun r6 =>
 some ((x,false,r6.1,(0:Int),(0:Int),([]:List T7),([]:List T7)),r6.2)
abbrev Zqh:=Spec.shp Zij Zmi Z4
def Zap:Ctx:={ tb:=mkTb T2.tbl,fx:=[(93,[],Zt7)],sum:=[],nt:=23,pin:=0,nr:=true,ys:=[] }
theorem Z5:Sound Tryz.prog 39 (Zqh) :=
 Sound.shp (C:=Zap) (fn:=Tryz.f39) (by kernel_rfl) (c:=bodyOf Tryz.f39) (by kernel_rfl) (by decide) (ctxOK mixed tbl_ok rfl ⟨Z5q,trivial⟩ trivial) (SumOK.of trivial) (by kernel_rfl) Zij Zmi rfl (by decide) (by decide) rfl (by decide) rfl Z4 (fun x=>by kernel_rfl)
abbrev Zh9:Shape:={ sl:=[(2,(.ptr 0 [])),(5,(.ptr 1 [])),(26,(.hole y0)),(27,(.hole (.int .i64))),(28,(.hole (.int .i64)))],bl:=bl_1,ts:=[y0,(.int .i64),(.int .i64),(.int .i64),(.int .i64),(.int .i64),y4,y39,y4,y18,y41,y19,y26],pin:=0 }
abbrev Zfz:List (ETag × Shape):=[(.exit 0,{ sl:=[(2,(.ptr 0 [])),(5,(.ptr 1 []))],bl:=bl_1,ts:=ts_9,pin:=0 })]
def Z87 (x:(List Int × Int × Int × Int × Int × Int × (Int × Int) × T47 × (Int × Int) × List (T17) × List T43 × List (T18) × List T29)):Option ((List Int × Int × Int × Int × Int × Int × (Int × Int) × T47 × (Int × Int) × List (T17) × List T43 × List (T18) × List T29) ⊕ (Int × Int × Int × (Int × Int) × T47 × (Int × Int) × List (T17) × List T43 × List (T18) × List T29)) :=
 bif (decide (x.2.2.1 < x.2.1)) then
 bif (inb x.2.2.1 (List.length x.1)) then
 (Z4 (getAt (0:Int) x.1 (toN x.2.2.1))).bind fun r5 =>
 bif (fits ((List.length x.2.2.2.2.2.2.2.2.2.2.1)+(List.length (r5.1 :: ([]:List (Int × T41)))))) then
 some (.inl (x.1,x.2.1,(IntKind.wrap .i64 (x.2.2.1+(1:Int))),x.2.2.2.1,x.2.2.2.2.1,x.2.2.2.2.2.1,x.2.2.2.2.2.2.1,x.2.2.2.2.2.2.2.1,x.2.2.2.2.2.2.2.2.1,x.2.2.2.2.2.2.2.2.2.1,(x.2.2.2.2.2.2.2.2.2.2.1++(r5.1 :: ([]:List (Int × T41)))),x.2.2.2.2.2.2.2.2.2.2.2.1,x.2.2.2.2.2.2.2.2.2.2.2.2))
 else
 none
 else
 none
 else
 some (.inr (x.2.2.2.1,x.2.2.2.2.1,x.2.2.2.2.2.1,x.2.2.2.2.2.2.1,x.2.2.2.2.2.2.2.1,x.2.2.2.2.2.2.2.2.1,x.2.2.2.2.2.2.2.2.2.1,x.2.2.2.2.2.2.2.2.2.2.1,x.2.2.2.2.2.2.2.2.2.2.2.1,x.2.2.2.2.2.2.2.2.2.2.2.2))
def Zbb:Ctx:={ tb:=mkTb T2.tbl,fx:=[(38,[],Zsq),(39,[],Zqh)],sum:=[],nt:=61,pin:=0,nr:=true,ys:=[] }
theorem Z88:CSound Tryz.prog ⟨61,0,true⟩ (.loop (loopOf 6 Tryz.f14)) (Yav Zh9 Zfz (loop Z87)) :=
 Y8e (C:=Zbb) (ctxOK mixed tbl_ok rfl ⟨Z4q,Z5,trivial⟩ trivial) (SumOK.of trivial) Zh9 Zfz rfl rfl Z87 (fun x=>by kernel_rfl)
abbrev Zk0:Shape:={ sl:=[(0,(.ptr 0 [])),(1,(.hole (.int .i64))),(2,(.hole (.int .i64))),(3,(.hole (.int .i64))),(4,(.hole (.int .i64))),(5,(.hole (.int .i64)))],bl:=bl_2,ts:=[(.int .i64),(.int .i64),(.int .i64),(.int .i64),(.int .i64),y39,y4,y18,y41,y19,y26,y27],pin:=0 }
abbrev Znz:Shape:={ sl:=sl_2,bl:=bl_2,ts:=ts_10,pin:=1 }
def Z35 (x:(Int × Int × Int × Int × Int × T47 × (Int × Int) × List (T17) × List T43 × List (T18) × List T29 × List (T20))):Option T58 :=
 bif (fits ((List.length x.2.2.2.2.2.2.2.2.2.2.2)+(List.length ((x.1,x.2.1,x.2.2.1,x.2.2.2.1,x.2.2.2.2.1) :: ([]:List T20))))) then
 some ((IntKind.wrap .i64 ((IntKind.wrap .i64 (x.2.2.2.2.2.2.1.1+(1:Int))) - (1:Int))),x.2.2.2.2.2.1,((IntKind.wrap .i64 (x.2.2.2.2.2.2.1.1+(1:Int))),x.2.2.2.2.2.2.1.2),x.2.2.2.2.2.2.2.1,x.2.2.2.2.2.2.2.2.1,x.2.2.2.2.2.2.2.2.2.1,x.2.2.2.2.2.2.2.2.2.2.1,(x.2.2.2.2.2.2.2.2.2.2.2++((x.1,x.2.1,x.2.2.1,x.2.2.2.1,x.2.2.2.2.1) :: ([]:List T20))))
 else
 none
abbrev Zry:=Spec.shp Zk0 Znz Z35
def Zch:Ctx:={ tb:=mkTb T2.tbl,fx:=[],sum:=[],nt:=43,pin:=1,nr:=true,ys:=[] }
theorem Z36:Sound Tryz.prog 40 (Zry) :=
 Sound.shp (C:=Zch) (fn:=Tryz.f40) (by kernel_rfl) (c:=bodyOf Tryz.f40) (by kernel_rfl) (by decide) (ctxOK mixed tbl_ok rfl trivial trivial) (SumOK.of trivial) (by kernel_rfl) Zk0 Znz rfl (by decide) (by decide) rfl (by decide) rfl Z35 (fun x=>by kernel_rfl)
abbrev Zji:Shape:={ sl:=sl_14,bl:=bl_2,ts:=[(.int .i64),(.int .i64),y39,y4,y18,y41,y19,y26,y27],pin:=0 }
abbrev Znh:Shape:={ sl:=[],bl:=bl_2,ts:=ts_11,pin:=1 }
def Z24 (x:(Int × Int × T47 × (Int × Int) × List (T17) × List T43 × List (T18) × List T29 × List (T20))):Option T57 :=
 bif (inb x.1 (List.length x.2.2.2.2.1)) then
 bif (inb (getAt ((0:Int),(0:Int),(0:Int),false) (List.set (List.set x.2.2.2.2.1 (toN x.1) ((getAt ((0:Int),(0:Int),(0:Int),false) x.2.2.2.2.1 (toN x.1)).1,x.2.1,(getAt ((0:Int),(0:Int),(0:Int),false) x.2.2.2.2.1 (toN x.1)).2.2)) (toN x.1) ((getAt ((0:Int),(0:Int),(0:Int),false) (List.set x.2.2.2.2.1 (toN x.1) ((getAt ((0:Int),(0:Int),(0:Int),false) x.2.2.2.2.1 (toN x.1)).1,x.2.1,(getAt ((0:Int),(0:Int),(0:Int),false) x.2.2.2.2.1 (toN x.1)).2.2)) (toN x.1)).1,(getAt ((0:Int),(0:Int),(0:Int),false) (List.set x.2.2.2.2.1 (toN x.1) ((getAt ((0:Int),(0:Int),(0:Int),false) x.2.2.2.2.1 (toN x.1)).1,x.2.1,(getAt ((0:Int),(0:Int),(0:Int),false) x.2.2.2.2.1 (toN x.1)).2.2)) (toN x.1)).2.1,(0:Int),(getAt ((0:Int),(0:Int),(0:Int),false) (List.set x.2.2.2.2.1 (toN x.1) ((getAt ((0:Int),(0:Int),(0:Int),false) x.2.2.2.2.1 (toN x.1)).1,x.2.1,(getAt ((0:Int),(0:Int),(0:Int),false) x.2.2.2.2.1 (toN x.1)).2.2)) (toN x.1)).2.2.2)) (toN x.1)).1 (List.length x.2.2.1.2.2.2.2.2)) then
 bif (x.2.1 == (((List.length (getAt ([]:List T7) x.2.2.1.2.2.2.2.2 (toN (getAt ((0:Int),(0:Int),(0:Int),false) (List.set (List.set x.2.2.2.2.1 (toN x.1) ((getAt ((0:Int),(0:Int),(0:Int),false) x.2.2.2.2.1 (toN x.1)).1,x.2.1,(getAt ((0:Int),(0:Int),(0:Int),false) x.2.2.2.2.1 (toN x.1)).2.2)) (toN x.1) ((getAt ((0:Int),(0:Int),(0:Int),false) (List.set x.2.2.2.2.1 (toN x.1) ((getAt ((0:Int),(0:Int),(0:Int),false) x.2.2.2.2.1 (toN x.1)).1,x.2.1,(getAt ((0:Int),(0:Int),(0:Int),false) x.2.2.2.2.1 (toN x.1)).2.2)) (toN x.1)).1,(getAt ((0:Int),(0:Int),(0:Int),false) (List.set x.2.2.2.2.1 (toN x.1) ((getAt ((0:Int),(0:Int),(0:Int),false) x.2.2.2.2.1 (toN x.1)).1,x.2.1,(getAt ((0:Int),(0:Int),(0:Int),false) x.2.2.2.2.1 (toN x.1)).2.2)) (toN x.1)).2.1,(0:Int),(getAt ((0:Int),(0:Int),(0:Int),false) (List.set x.2.2.2.2.1 (toN x.1) ((getAt ((0:Int),(0:Int),(0:Int),false) x.2.2.2.2.1 (toN x.1)).1,x.2.1,(getAt ((0:Int),(0:Int),(0:Int),false) x.2.2.2.2.1 (toN x.1)).2.2)) (toN x.1)).2.2.2)) (toN x.1)).1))):Nat):Int)) then
 some (x.2.2.1,x.2.2.2.1,(List.set (List.set (List.set x.2.2.2.2.1 (toN x.1) ((getAt ((0:Int),(0:Int),(0:Int),false) x.2.2.2.2.1 (toN x.1)).1,x.2.1,(getAt ((0:Int),(0:Int),(0:Int),false) x.2.2.2.2.1 (toN x.1)).2.2)) (toN x.1) ((getAt ((0:Int),(0:Int),(0:Int),false) (List.set x.2.2.2.2.1 (toN x.1) ((getAt ((0:Int),(0:Int),(0:Int),false) x.2.2.2.2.1 (toN x.1)).1,x.2.1,(getAt ((0:Int),(0:Int),(0:Int),false) x.2.2.2.2.1 (toN x.1)).2.2)) (toN x.1)).1,(getAt ((0:Int),(0:Int),(0:Int),false) (List.set x.2.2.2.2.1 (toN x.1) ((getAt ((0:Int),(0:Int),(0:Int),false) x.2.2.2.2.1 (toN x.1)).1,x.2.1,(getAt ((0:Int),(0:Int),(0:Int),false) x.2.2.2.2.1 (toN x.1)).2.2)) (toN x.1)).2.1,(0:Int),(getAt ((0:Int),(0:Int),(0:Int),false) (List.set x.2.2.2.2.1 (toN x.1) ((getAt ((0:Int),(0:Int),(0:Int),false) x.2.2.2.2.1 (toN x.1)).1,x.2.1,(getAt ((0:Int),(0:Int),(0:Int),false) x.2.2.2.2.1 (toN x.1)).2.2)) (toN x.1)).2.2.2)) (toN x.1) ((getAt ((0:Int),(0:Int),(0:Int),false) (List.set (List.set x.2.2.2.2.1 (toN x.1) ((getAt ((0:Int),(0:Int),(0:Int),false) x.2.2.2.2.1 (toN x.1)).1,x.2.1,(getAt ((0:Int),(0:Int),(0:Int),false) x.2.2.2.2.1 (toN x.1)).2.2)) (toN x.1) ((getAt ((0:Int),(0:Int),(0:Int),false) (List.set x.2.2.2.2.1 (toN x.1) ((getAt ((0:Int),(0:Int),(0:Int),false) x.2.2.2.2.1 (toN x.1)).1,x.2.1,(getAt ((0:Int),(0:Int),(0:Int),false) x.2.2.2.2.1 (toN x.1)).2.2)) (toN x.1)).1,(getAt ((0:Int),(0:Int),(0:Int),false) (List.set x.2.2.2.2.1 (toN x.1) ((getAt ((0:Int),(0:Int),(0:Int),false) x.2.2.2.2.1 (toN x.1)).1,x.2.1,(getAt ((0:Int),(0:Int),(0:Int),false) x.2.2.2.2.1 (toN x.1)).2.2)) (toN x.1)).2.1,(0:Int),(getAt ((0:Int),(0:Int),(0:Int),false) (List.set x.2.2.2.2.1 (toN x.1) ((getAt ((0:Int),(0:Int),(0:Int),false) x.2.2.2.2.1 (toN x.1)).1,x.2.1,(getAt ((0:Int),(0:Int),(0:Int),false) x.2.2.2.2.1 (toN x.1)).2.2)) (toN x.1)).2.2.2)) (toN x.1)).1,(getAt ((0:Int),(0:Int),(0:Int),false) (List.set (List.set x.2.2.2.2.1 (toN x.1) ((getAt ((0:Int),(0:Int),(0:Int),false) x.2.2.2.2.1 (toN x.1)).1,x.2.1,(getAt ((0:Int),(0:Int),(0:Int),false) x.2.2.2.2.1 (toN x.1)).2.2)) (toN x.1) ((getAt ((0:Int),(0:Int),(0:Int),false) (List.set x.2.2.2.2.1 (toN x.1) ((getAt ((0:Int),(0:Int),(0:Int),false) x.2.2.2.2.1 (toN x.1)).1,x.2.1,(getAt ((0:Int),(0:Int),(0:Int),false) x.2.2.2.2.1 (toN x.1)).2.2)) (toN x.1)).1,(getAt ((0:Int),(0:Int),(0:Int),false) (List.set x.2.2.2.2.1 (toN x.1) ((getAt ((0:Int),(0:Int),(0:Int),false) x.2.2.2.2.1 (toN x.1)).1,x.2.1,(getAt ((0:Int),(0:Int),(0:Int),false) x.2.2.2.2.1 (toN x.1)).2.2)) (toN x.1)).2.1,(0:Int),(getAt ((0:Int),(0:Int),(0:Int),false) (List.set x.2.2.2.2.1 (toN x.1) ((getAt ((0:Int),(0:Int),(0:Int),false) x.2.2.2.2.1 (toN x.1)).1,x.2.1,(getAt ((0:Int),(0:Int),(0:Int),false) x.2.2.2.2.1 (toN x.1)).2.2)) (toN x.1)).2.2.2)) (toN x.1)).2.1,(2:Int),(getAt ((0:Int),(0:Int),(0:Int),false) (List.set (List.set x.2.2.2.2.1 (toN x.1) ((getAt ((0:Int),(0:Int),(0:Int),false) x.2.2.2.2.1 (toN x.1)).1,x.2.1,(getAt ((0:Int),(0:Int),(0:Int),false) x.2.2.2.2.1 (toN x.1)).2.2)) (toN x.1) ((getAt ((0:Int),(0:Int),(0:Int),false) (List.set x.2.2.2.2.1 (toN x.1) ((getAt ((0:Int),(0:Int),(0:Int),false) x.2.2.2.2.1 (toN x.1)).1,x.2.1,(getAt ((0:Int),(0:Int),(0:Int),false) x.2.2.2.2.1 (toN x.1)).2.2)) (toN x.1)).1,(getAt ((0:Int),(0:Int),(0:Int),false) (List.set x.2.2.2.2.1 (toN x.1) ((getAt ((0:Int),(0:Int),(0:Int),false) x.2.2.2.2.1 (toN x.1)).1,x.2.1,(getAt ((0:Int),(0:Int),(0:Int),false) x.2.2.2.2.1 (toN x.1)).2.2)) (toN x.1)).2.1,(0:Int),(getAt ((0:Int),(0:Int),(0:Int),false) (List.set x.2.2.2.2.1 (toN x.1) ((getAt ((0:Int),(0:Int),(0:Int),false) x.2.2.2.2.1 (toN x.1)).1,x.2.1,(getAt ((0:Int),(0:Int),(0:Int),false) x.2.2.2.2.1 (toN x.1)).2.2)) (toN x.1)).2.2.2)) (toN x.1)).2.2.2)),x.2.2.2.2.2.1,x.2.2.2.2.2.2.1,x.2.2.2.2.2.2.2.1,x.2.2.2.2.2.2.2.2)
 else
 some (x.2.2.1,x.2.2.2.1,(List.set (List.set x.2.2.2.2.1 (toN x.1) ((getAt ((0:Int),(0:Int),(0:Int),false) x.2.2.2.2.1 (toN x.1)).1,x.2.1,(getAt ((0:Int),(0:Int),(0:Int),false) x.2.2.2.2.1 (toN x.1)).2.2)) (toN x.1) ((getAt ((0:Int),(0:Int),(0:Int),false) (List.set x.2.2.2.2.1 (toN x.1) ((getAt ((0:Int),(0:Int),(0:Int),false) x.2.2.2.2.1 (toN x.1)).1,x.2.1,(getAt ((0:Int),(0:Int),(0:Int),false) x.2.2.2.2.1 (toN x.1)).2.2)) (toN x.1)).1,(getAt ((0:Int),(0:Int),(0:Int),false) (List.set x.2.2.2.2.1 (toN x.1) ((getAt ((0:Int),(0:Int),(0:Int),false) x.2.2.2.2.1 (toN x.1)).1,x.2.1,(getAt ((0:Int),(0:Int),(0:Int),false) x.2.2.2.2.1 (toN x.1)).2.2)) (toN x.1)).2.1,(0:Int),(getAt ((0:Int),(0:Int),(0:Int),false) (List.set x.2.2.2.2.1 (toN x.1) ((getAt ((0:Int),(0:Int),(0:Int),false) x.2.2.2.2.1 (toN x.1)).1,x.2.1,(getAt ((0:Int),(0:Int),(0:Int),false) x.2.2.2.2.1 (toN x.1)).2.2)) (toN x.1)).2.2.2)),x.2.2.2.2.2.1,x.2.2.2.2.2.2.1,x.2.2.2.2.2.2.2.1,x.2.2.2.2.2.2.2.2)
 else
 none
 else
 none
abbrev Zrg:=Spec.shp Zji Znh Z24
def Zbx:Ctx:={ tb:=mkTb T2.tbl,fx:=[],sum:=[],nt:=39,pin:=1,nr:=true,ys:=[] }
theorem Z25:Sound Tryz.prog 41 (Zrg) :=
 Sound.shp (C:=Zbx) (fn:=Tryz.f41) (by kernel_rfl) (c:=bodyOf Tryz.f41) (by kernel_rfl) (by decide) (ctxOK mixed tbl_ok rfl trivial trivial) (SumOK.of trivial) (by kernel_rfl) Zji Znh rfl (by decide) (by decide) rfl (by decide) rfl Z24 (fun x=>by kernel_rfl)
abbrev Zjx:Shape:={ sl:=[(0,(.hole y12)),(1,(.ptr 0 []))],bl:=bl_3,ts:=[y12,(.int .i64)],pin:=0 }
abbrev Znw:Shape:={ sl:=sl_1,bl:=bl_3,ts:=[.bool,(.int .i64)],pin:=1 }
def Z2w (x:(T17 × Int)):Option T0 :=
 some ((x.1.2.2.1 == x.2),x.2)
abbrev Zrv:=Spec.shp Zjx Znw Z2w
def Zcd:Ctx:={ tb:=mkTb T2.tbl,fx:=[],sum:=[],nt:=8,pin:=1,nr:=true,ys:=[] }
theorem Z2x:Sound Tryz.prog 96 (Zrv) :=
 Sound.shp (C:=Zcd) (fn:=Tryz.f96) (by kernel_rfl) (c:=bodyOf Tryz.f96) (by kernel_rfl) (by decide) (ctxOK mixed tbl_ok rfl trivial trivial) (SumOK.of trivial) (by kernel_rfl) Zjx Znw rfl (by decide) (by decide) rfl (by decide) rfl Z2w (fun x=>by kernel_rfl)
theorem Z2y:Sound Tryz.prog 96 (Spec.shpR Zjx Znw Z2w) :=
 Sound.shpR (fun x y h=>by have h:=Option.some.inj h; subst h; rfl) Z2x
abbrev Zi8:Shape:={ sl:=[(0,(.sl 0)),(1,(.fn 96 .nil (.cons (.ptr 1 []) .nil))),(7,(.hole (.int .i64))),(8,(.hole (.int .i64)))],bl:=bl_4,ts:=[(.int .i64),(.int .i64),y18,(.int .i64)],pin:=2 }
abbrev Zgy:List (ETag × Shape):=[(.ret,{ sl:=sl_3,bl:=bl_4,ts:=[(.int .i64),y18,(.int .i64)],pin:=2 }),(.exit 0,{ sl:=[],bl:=bl_4,ts:=[y18,(.int .i64)],pin:=2 })]
def Za5 (x:(Int × Int × List (T17) × Int)):Option ((Int × Int × List (T17) × Int) ⊕ ((Int × List (T17) × Int) ⊕ (List (T17) × Int))) :=
 bif (decide (x.2.1 < x.1)) then
 bif (inb x.2.1 (List.length x.2.2.1)) then
 (Z2w ((getAt ((0:Int),(0:Int),(0:Int),false) x.2.2.1 (toN x.2.1)),x.2.2.2)).bind fun r12 =>
 bif r12.1 then
 some (.inr (.inl (x.2.1,x.2.2.1,x.2.2.2)))
 else
 some (.inl (x.1,(IntKind.wrap .i64 (x.2.1+(1:Int))),x.2.2.1,x.2.2.2))
 else
 none
 else
 some (.inr (.inr (x.2.2.1,x.2.2.2)))
def Zf8:Ctx:={ tb:=mkTb T2.tbl,fx:=[(96,[],Spec.shpR Zjx Znw Z2w)],sum:=[],nt:=19,pin:=2,nr:=true,ys:=[] }
theorem Za6:CSound Tryz.prog ⟨19,2,true⟩ (.loop (loopOf 3 Tryz.f156)) (Yav Zi8 Zgy (loop Za5)) :=
 Y8e (C:=Zf8) (ctxOK mixed tbl_ok rfl ⟨Z2y,trivial⟩ trivial) (SumOK.of trivial) Zi8 Zgy rfl rfl Za5 (fun x=>by kernel_rfl)
abbrev Zlz:Shape:={ sl:=[(0,(.sl 0)),(1,(.fn 96 .nil (.cons (.ptr 1 []) .nil)))],bl:=bl_4,ts:=[y18,(.int .i64)],pin:=0 }
abbrev Zpy:Shape:={ sl:=sl_2,bl:=bl_4,ts:=[(.int .i64),y18,(.int .i64)],pin:=2 }
def Z73 (x:(List (T17) × Int)):Option (Int × List (T17) × Int) :=
 (loop Za5 ((((List.length x.1):Nat):Int),(0:Int),x.1,x.2)).bind fun r11 =>
 match r11 with
 | .inl y12 =>
 some (y12.1,y12.2.1,y12.2.2)
 | .inr y12 =>
 some ((Int.negSucc 0),y12.1,y12.2)
abbrev Ztw:=Spec.shp Zlz Zpy Z73
def Zf7:Ctx:={ tb:=mkTb T2.tbl,fx:=[(96,[],Spec.shpR Zjx Znw Z2w)],sum:=[(0,3,Yav Zi8 Zgy (loop Za5))],nt:=19,pin:=2,nr:=true,ys:=[] }
theorem Z74:Sound Tryz.prog 156 (Ztw) :=
 Sound.shp (C:=Zf7) (fn:=Tryz.f156) (by kernel_rfl) (c:=bodyOf Tryz.f156) (by kernel_rfl) (by decide) (ctxOK mixed tbl_ok rfl ⟨Z2y,trivial⟩ trivial) (SumOK.of ⟨(Yax (d:=.loop (loopOf 3 Tryz.f156)) (by kernel_rfl) Za6),trivial⟩) (by kernel_rfl) Zlz Zpy rfl (by decide) (by decide) rfl (by decide) rfl Z73 (fun x=>by kernel_rfl)
abbrev Zlq:Shape:={ sl:=[(0,(.sl 0)),(1,(.fn 96 .nil (.cons (.ptr 1 []) .nil)))],bl:=bl_4,ts:=[y18,(.int .i64)],pin:=0 }
abbrev Zpp:Shape:={ sl:=sl_1,bl:=bl_4,ts:=[.bool,y18,(.int .i64)],pin:=2 }
def Z6l (x:(List (T17) × Int)):Option (Bool × List (T17) × Int) :=
 (Z73 (x.1,x.2)).bind fun r10 =>
 some ((decide (r10.1 ≥ (0:Int))),r10.2.1,r10.2.2)
abbrev Ztn:=Spec.shp Zlq Zpp Z6l
def Zev:Ctx:={ tb:=mkTb T2.tbl,fx:=[(156,[2000000,96],Ztw)],sum:=[],nt:=9,pin:=2,nr:=true,ys:=[] }
theorem Z6m:Sound Tryz.prog 95 (Ztn) :=
 Sound.shp (C:=Zev) (fn:=Tryz.f95) (by kernel_rfl) (c:=bodyOf Tryz.f95) (by kernel_rfl) (by decide) (ctxOK mixed tbl_ok rfl ⟨Z74,trivial⟩ trivial) (SumOK.of trivial) (by kernel_rfl) Zlq Zpp rfl (by decide) (by decide) rfl (by decide) rfl Z6l (fun x=>by kernel_rfl)
abbrev Zjw:Shape:={ sl:=[(0,(.hole (.int .i64))),(1,(.ptr 0 []))],bl:=bl_5,ts:=ts_10,pin:=0 }
abbrev Znv:Shape:={ sl:=sl_1,bl:=bl_5,ts:=[.bool,y39,y4,y18,y41,y19,y26,y27],pin:=2 }
def Z2v (x:T58):Option (Bool × T47 × (Int × Int) × List (T17) × List T43 × List (T18) × List T29 × List (T20)) :=
 (Z6l (x.2.2.2.1,x.1)).bind fun r9 =>
 some (r9.1,x.2.1,x.2.2.1,r9.2.1,x.2.2.2.2.1,x.2.2.2.2.2.1,x.2.2.2.2.2.2.1,x.2.2.2.2.2.2.2)
abbrev Zru:=Spec.shp Zjw Znv Z2v
def Zcc:Ctx:={ tb:=mkTb T2.tbl,fx:=[(95,[2000000,96],Ztn)],sum:=[],nt:=11,pin:=2,nr:=true,ys:=[] }
theorem Z2z:Sound Tryz.prog 94 (Zru) :=
 Sound.shp (C:=Zcc) (fn:=Tryz.f94) (by kernel_rfl) (c:=bodyOf Tryz.f94) (by kernel_rfl) (by decide) (ctxOK mixed tbl_ok rfl ⟨Z6m,trivial⟩ trivial) (SumOK.of trivial) (by kernel_rfl) Zjw Znv rfl (by decide) (by decide) rfl (by decide) rfl Z2v (fun x=>by kernel_rfl)
abbrev Zjv:Shape:={ sl:=sl_15,bl:=bl_2,ts:=ts_11,pin:=0 }
abbrev Znu:Shape:={ sl:=[],bl:=bl_2,ts:=ts_11,pin:=1 }
def Z2u (x:T57):Option T57 :=
 bif (x.2.1.2 != (0:Int)) then
 some (x.1,x.2.1,x.2.2.1,x.2.2.2.1,x.2.2.2.2.1,x.2.2.2.2.2.1,x.2.2.2.2.2.2)
 else
 (Z2v ((0:Int),x.1,x.2.1,x.2.2.1,x.2.2.2.1,x.2.2.2.2.1,x.2.2.2.2.2.1,x.2.2.2.2.2.2)).bind fun r8 =>
 bif r8.1 then
 some (r8.2.1,r8.2.2.1,r8.2.2.2.1,r8.2.2.2.2.1,r8.2.2.2.2.2.1,r8.2.2.2.2.2.2.1,r8.2.2.2.2.2.2.2)
 else
 (Z2v ((1:Int),r8.2.1,r8.2.2.1,r8.2.2.2.1,r8.2.2.2.2.1,r8.2.2.2.2.2.1,r8.2.2.2.2.2.2.1,r8.2.2.2.2.2.2.2)).bind fun r9 =>
 bif r9.1 then
 some (r9.2.1,(r9.2.2.1.1,(2:Int)),r9.2.2.2.1,r9.2.2.2.2.1,r9.2.2.2.2.2.1,r9.2.2.2.2.2.2.1,r9.2.2.2.2.2.2.2)
 else
 some (r9.2.1,(r9.2.2.1.1,(1:Int)),r9.2.2.2.1,r9.2.2.2.2.1,r9.2.2.2.2.2.1,r9.2.2.2.2.2.2.1,r9.2.2.2.2.2.2.2)
abbrev Zrt:=Spec.shp Zjv Znu Z2u
def Zcb:Ctx:={ tb:=mkTb T2.tbl,fx:=[(94,[],Spec.thin (Zru))],sum:=[],nt:=26,pin:=1,nr:=true,ys:=[] }
theorem Z30:Sound Tryz.prog 42 (Zrt) :=
 Sound.shp (C:=Zcb) (fn:=Tryz.f42) (by kernel_rfl) (c:=bodyOf Tryz.f42) (by kernel_rfl) (by decide) (ctxOK mixed tbl_ok rfl ⟨Z2z.thin,trivial⟩ trivial) (SumOK.of trivial) (by kernel_rfl) Zjv Znu rfl (by decide) (by decide) rfl (by decide) rfl Z2u (fun x=>by kernel_rfl)
abbrev Zj2:Shape:={ sl:=sl_6,bl:=[],ts:=[y39],pin:=0 }
abbrev Zn1:Shape:={ sl:=[(0,(.hole y45)),(1,(.hole y27)),(2,(.hole (.int .i64)))],bl:=[],ts:=[y45,y27,(.int .i64)],pin:=0 }
def Z18 (x:(T47)):Option ((T47 × T61) × List (T20) × Int) :=
 (Z4p x).bind fun r3 =>
 bif (Bool.not r3) then
 some (((([]:List Int),(0:Int),(0:Int),(0:Int),([]:List T21),([]:List (List T7))),([]:List T17),([]:List (Int × T41)),([]:List T22),([]:List (Int × T14)),(0:Int),(0:Int)),([]:List T20),(1:Int))
 else
 bif (mkOK x.2.1 x.2.1) then
 bif (mkOK x.2.2.1 x.2.2.1) then
 (loop Z87 (x.1,(((List.length x.1):Nat):Int),(0:Int),(0:Int),(0:Int),(0:Int),((0:Int),(0:Int)),x,((0:Int),(0:Int)),(((0:Int),(0:Int),(0:Int),false) :: ([]:List T17)),([]:List (Int × T41)),(List.replicate (toN x.2.1) (false,([]:List T7))),(List.replicate (toN x.2.2.1) ((0:Int),(0:Int),([]:List T7))))).bind fun r4 =>
 (Z35 ((0:Int),(0:Int),(0:Int),(0:Int),(Int.negSucc 0),r4.2.2.2.2.1,r4.2.2.2.2.2.1,r4.2.2.2.2.2.2.1,r4.2.2.2.2.2.2.2.1,r4.2.2.2.2.2.2.2.2.1,r4.2.2.2.2.2.2.2.2.2,([]:List T20))).bind fun r5 =>
 (Z24 ((0:Int),(0:Int),r5.2.1,r5.2.2.1,r5.2.2.2.1,r5.2.2.2.2.1,r5.2.2.2.2.2.1,r5.2.2.2.2.2.2.1,r5.2.2.2.2.2.2.2)).bind fun r6 =>
 (Z2u (r6.1,r6.2.1,r6.2.2.1,r6.2.2.2.1,r6.2.2.2.2.1,r6.2.2.2.2.2.1,r6.2.2.2.2.2.2)).bind fun r7 =>
 some ((r7.1,r7.2.2.1,r7.2.2.2.1,r7.2.2.2.2.1,r7.2.2.2.2.2.1,r7.2.1),r7.2.2.2.2.2.2,(0:Int))
 else
 none
 else
 none
abbrev Zr0:=Spec.shp Zj2 Zn1 Z18
def Zba:Ctx:={ tb:=mkTb T2.tbl,fx:=[(38,[],Zsq),(39,[],Zqh),(40,[],Zry),(41,[],Zrg),(42,[],Zrt)],sum:=[(0,6,Yav Zh9 Zfz (loop Z87))],nt:=61,pin:=0,nr:=true,ys:=[] }
theorem Z19:Sound Tryz.prog 14 (Zr0) :=
 Sound.shp (C:=Zba) (fn:=Tryz.f14) (by kernel_rfl) (c:=bodyOf Tryz.f14) (by kernel_rfl) (by decide) (ctxOK mixed tbl_ok rfl ⟨Z4q,Z5,Z36,Z25,Z30,trivial⟩ trivial) (SumOK.of ⟨(Yax (d:=.loop (loopOf 6 Tryz.f14)) (by kernel_rfl) Z88),trivial⟩) (by kernel_rfl) Zj2 Zn1 rfl (by decide) (by decide) rfl (by decide) rfl Z18 (fun x=>by kernel_rfl)
abbrev Zj5:Shape:={ sl:=[(0,(.hole y39)),(1,(.hole y12))],bl:=[],ts:=[y39,y12],pin:=0 }
abbrev Zn4:Shape:={ sl:=sl_1,bl:=[],ts:=ts_1,pin:=0 }
def Z1e (x:(T47 × T17)):Option (Bool) :=
 bif (decide (x.2.1 < (0:Int))) then
 some false
 else
 bif (decide (x.2.1 ≥ (((List.length x.1.2.2.2.2.2):Nat):Int))) then
 some false
 else
 bif (decide (x.2.2.1 < (0:Int))) then
 some false
 else
 bif (inb x.2.1 (List.length x.1.2.2.2.2.2)) then
 bif (decide (x.2.2.1 > (((List.length (getAt ([]:List T7) x.1.2.2.2.2.2 (toN x.2.1))):Nat):Int))) then
 some false
 else
 bif (decide (x.2.2.2.1 ≥ (0:Int))) then
 bif (decide (x.2.2.2.1 ≤ (2:Int))) then
 bif (inb x.2.1 (List.length x.1.2.2.2.2.2)) then
 some ((x.2.2.1 == (((List.length (getAt ([]:List T7) x.1.2.2.2.2.2 (toN x.2.1))):Nat):Int)) == (x.2.2.2.1 == (2:Int)))
 else
 none
 else
 some false
 else
 some false
 else
 none
abbrev Zr3:=Spec.shp Zj5 Zn4 Z1e
def Zbe:Ctx:={ tb:=mkTb T2.tbl,fx:=[],sum:=[],nt:=57,pin:=0,nr:=true,ys:=[] }
theorem Z1f:Sound Tryz.prog 108 (Zr3) :=
 Sound.shp (C:=Zbe) (fn:=Tryz.f108) (by kernel_rfl) (c:=bodyOf Tryz.f108) (by kernel_rfl) (by decide) (ctxOK mixed tbl_ok rfl trivial trivial) (SumOK.of trivial) (by kernel_rfl) Zj5 Zn4 rfl (by decide) (by decide) rfl (by decide) rfl Z1e (fun x=>by kernel_rfl)
abbrev Zj8:Shape:={ sl:=[(0,(.hole y12)),(1,(.ptr 0 []))],bl:=bl_0,ts:=[y12,y39],pin:=0 }
abbrev Zn7:Shape:={ sl:=sl_1,bl:=bl_0,ts:=[.bool,y39],pin:=1 }
def Z1j (x:(T17 × T47)):Option (Bool × T47) :=
 (Z1e (x.2,x.1)).bind fun r11 =>
 some ((Bool.not r11),x.2)
abbrev Zr6:=Spec.shp Zj8 Zn7 Z1j
def Zbi:Ctx:={ tb:=mkTb T2.tbl,fx:=[(108,[],Zr3)],sum:=[],nt:=8,pin:=1,nr:=true,ys:=[] }
theorem Z1k:Sound Tryz.prog 107 (Zr6) :=
 Sound.shp (C:=Zbi) (fn:=Tryz.f107) (by kernel_rfl) (c:=bodyOf Tryz.f107) (by kernel_rfl) (by decide) (ctxOK mixed tbl_ok rfl ⟨Z1f,trivial⟩ trivial) (SumOK.of trivial) (by kernel_rfl) Zj8 Zn7 rfl (by decide) (by decide) rfl (by decide) rfl Z1j (fun x=>by kernel_rfl)
abbrev Zi7:Shape:={ sl:=[(0,(.hole y18)),(1,(.fn 107 .nil (.cons (.ptr 0 []) .nil))),(7,(.hole (.int .i64))),(8,(.hole (.int .i64)))],bl:=bl_0,ts:=[y18,(.int .i64),(.int .i64),y39],pin:=1 }
abbrev Zgx:List (ETag × Shape):=[(.ret,{ sl:=sl_3,bl:=bl_0,ts:=[(.int .i64),y39],pin:=1 }),(.exit 0,{ sl:=[],bl:=bl_0,ts:=[y39],pin:=1 })]
def Za3 (x:(List (T17) × Int × Int × T47)):Option ((List (T17) × Int × Int × T47) ⊕ ((Int × T47) ⊕ (T47))) :=
 bif (decide (x.2.2.1 < x.2.1)) then
 bif (inb x.2.2.1 (List.length x.1)) then
 (Z1j ((getAt ((0:Int),(0:Int),(0:Int),false) x.1 (toN x.2.2.1)),x.2.2.2)).bind fun r10 =>
 bif r10.1 then
 some (.inr (.inl (x.2.2.1,r10.2)))
 else
 some (.inl (x.1,x.2.1,(IntKind.wrap .i64 (x.2.2.1+(1:Int))),r10.2))
 else
 none
 else
 some (.inr (.inr x.2.2.2))
def Zf6:Ctx:={ tb:=mkTb T2.tbl,fx:=[(107,[],Zr6)],sum:=[],nt:=19,pin:=1,nr:=true,ys:=[] }
theorem Za4:CSound Tryz.prog ⟨19,1,true⟩ (.loop (loopOf 3 Tryz.f156)) (Yav Zi7 Zgx (loop Za3)) :=
 Y8e (C:=Zf6) (ctxOK mixed tbl_ok rfl ⟨Z1k,trivial⟩ trivial) (SumOK.of trivial) Zi7 Zgx rfl rfl Za3 (fun x=>by kernel_rfl)
abbrev Zly:Shape:={ sl:=[(0,(.hole y18)),(1,(.fn 107 .nil (.cons (.ptr 0 []) .nil)))],bl:=bl_0,ts:=[y18,y39],pin:=0 }
abbrev Zpx:Shape:={ sl:=sl_2,bl:=bl_0,ts:=[(.int .i64),y39],pin:=1 }
def Z71 (x:(List (T17) × T47)):Option (Int × T47) :=
 (loop Za3 (x.1,(((List.length x.1):Nat):Int),(0:Int),x.2)).bind fun r9 =>
 match r9 with
 | .inl y10 =>
 some (y10.1,y10.2)
 | .inr y10 =>
 some ((Int.negSucc 0),y10)
abbrev Ztv:=Spec.shp Zly Zpx Z71
def Zf5:Ctx:={ tb:=mkTb T2.tbl,fx:=[(107,[],Zr6)],sum:=[(0,3,Yav Zi7 Zgx (loop Za3))],nt:=19,pin:=1,nr:=true,ys:=[] }
theorem Z72:Sound Tryz.prog 156 (Ztv) :=
 Sound.shp (C:=Zf5) (fn:=Tryz.f156) (by kernel_rfl) (c:=bodyOf Tryz.f156) (by kernel_rfl) (by decide) (ctxOK mixed tbl_ok rfl ⟨Z1k,trivial⟩ trivial) (SumOK.of ⟨(Yax (d:=.loop (loopOf 3 Tryz.f156)) (by kernel_rfl) Za4),trivial⟩) (by kernel_rfl) Zly Zpx rfl (by decide) (by decide) rfl (by decide) rfl Z71 (fun x=>by kernel_rfl)
abbrev Zlp:Shape:={ sl:=[(0,(.hole y18)),(1,(.fn 107 .nil (.cons (.ptr 0 []) .nil)))],bl:=bl_0,ts:=[y18,y39],pin:=0 }
abbrev Zpo:Shape:={ sl:=sl_1,bl:=bl_0,ts:=[.bool,y39],pin:=1 }
def Z6j (x:(List (T17) × T47)):Option (Bool × T47) :=
 (Z71 (x.1,x.2)).bind fun r8 =>
 some ((decide (r8.1 ≥ (0:Int))),r8.2)
abbrev Ztm:=Spec.shp Zlp Zpo Z6j
def Zeu:Ctx:={ tb:=mkTb T2.tbl,fx:=[(156,[107],Ztv)],sum:=[],nt:=9,pin:=1,nr:=true,ys:=[] }
theorem Z6k:Sound Tryz.prog 95 (Ztm) :=
 Sound.shp (C:=Zeu) (fn:=Tryz.f95) (by kernel_rfl) (c:=bodyOf Tryz.f95) (by kernel_rfl) (by decide) (ctxOK mixed tbl_ok rfl ⟨Z72,trivial⟩ trivial) (SumOK.of trivial) (by kernel_rfl) Zlp Zpo rfl (by decide) (by decide) rfl (by decide) rfl Z6j (fun x=>by kernel_rfl)
abbrev Zld:Shape:={ sl:=[(0,(.hole y21))],bl:=[],ts:=[y21],pin:=0 }
abbrev Zpc:Shape:={ sl:=sl_1,bl:=[],ts:=ts_1,pin:=0 }
def Z5v (x:(T16)):Option (Bool) :=
 bif (decide (x.1 ≥ (0:Int))) then
 bif (decide (x.1 ≤ (8:Int))) then
 bif ((((List.length x.2.2.1):Nat):Int) == x.1) then
 bif (decide (x.2.2.2 ≥ (0:Int))) then
 bif (decide (x.2.2.2 ≤ x.1)) then
 bif (decide (x.2.1 ≥ (0:Int))) then
 some (decide (x.2.1 < (Max.max (1:Int) x.1)))
 else
 some false
 else
 some false
 else
 some false
 else
 some false
 else
 some false
 else
 some false
abbrev Zta:=Spec.shp Zld Zpc Z5v
def Zeh:Ctx:={ tb:=mkTb T2.tbl,fx:=[],sum:=[],nt:=46,pin:=0,nr:=true,ys:=[] }
theorem Z5w:Sound Tryz.prog 196 (Zta) :=
 Sound.shp (C:=Zeh) (fn:=Tryz.f196) (by kernel_rfl) (c:=bodyOf Tryz.f196) (by kernel_rfl) (by decide) (ctxOK mixed tbl_ok rfl trivial trivial) (SumOK.of trivial) (by kernel_rfl) Zld Zpc rfl (by decide) (by decide) rfl (by decide) rfl Z5v (fun x=>by kernel_rfl)
abbrev Zle:Shape:={ sl:=[(0,(.hole (.one y21)))],bl:=[],ts:=[(.one y21)],pin:=0 }
abbrev Zpd:Shape:={ sl:=[(0,(.fn 231 .nil (.cons (.ptr 0 []) .nil)))],bl:=[.var (.hole (.one y21))],ts:=[(.one y21)],pin:=0 }
def Z5x (x:(T16)):Option (T16) :=
 some x
abbrev Ztb:=Spec.shp Zle Zpd Z5x
def Zei:Ctx:={ tb:=mkTb T2.tbl,fx:=[],sum:=[],nt:=4,pin:=0,nr:=true,ys:=[] }
theorem Z60:Sound Tryz.prog 197 (Ztb) :=
 Sound.shp (C:=Zei) (fn:=Tryz.f197) (by kernel_rfl) (c:=bodyOf Tryz.f197) (by kernel_rfl) (by decide) (ctxOK mixed tbl_ok rfl trivial trivial) (SumOK.of trivial) (by kernel_rfl) Zle Zpd rfl (by decide) (by decide) rfl (by decide) rfl Z5x (fun x=>by kernel_rfl)
abbrev Zl9:Shape:={ sl:=[(4,(.ptr 0 [])),(12,(.hole (.int .i64)))],bl:=[.var (.sl 1),.row (.int .i64)],ts:=[(.int .i64),y0],pin:=0 }
abbrev Zp8:Shape:={ sl:=sl_2,bl:=[.var (.sl 1),.row (.int .i64)],ts:=[(.int .i64),y0],pin:=1 }
def Z5n (x:T3):Option T3 :=
 bif (fits ((List.length x.2)+(List.length (x.1 :: ([]:List Int))))) then
 some ((0:Int),(x.2++(x.1 :: ([]:List Int))))
 else
 none
def Zed:Ctx:={ tb:=mkTb T2.tbl,fx:=[],sum:=[],nt:=18,pin:=1,nr:=false,ys:=[] }
theorem Z5o:YSound Tryz.prog 10485766 [4] (Spec.rnd [4,12] Zl9 Zp8 Z5n) :=
 YSound.rnd (C:=Zed) (rt:=⟨rfPs (rfOf 6 Tryz.f160),rfAs (rfOf 6 Tryz.f160),rfBody (rfOf 6 Tryz.f160),18⟩) (by kernel_rfl) (ctxOK mixed tbl_ok rfl trivial) (SumOK.of trivial) (SumOK.of trivial) rfl rfl [4] Zl9 Zp8 rfl (by decide) (by decide) rfl (fun y=>⟨_,rfl⟩) (of_decide_eq_true (by kernel_rfl)) (of_decide_eq_true (by kernel_rfl)) Z5n (fun x=>by kernel_rfl)
abbrev Zlg:Shape:={ sl:=[(0,(.hole (.one y21))),(1,(.hole (.int .i64)))],bl:=[],ts:=[(.one y21),(.int .i64)],pin:=0 }
abbrev Zpf:Shape:={ sl:=sl_2,bl:=[],ts:=ts_2,pin:=0 }
def Z61 (x:(T16 × Int)):Option (Int) :=
 bif (x.1.1 != (0:Int)) then
 some (Int.tmod (IntKind.wrap .i64 (x.1.2.1+x.2)) x.1.1)
 else
 none
abbrev Ztd:=Spec.shp Zlg Zpf Z61
def Zel:Ctx:={ tb:=mkTb T2.tbl,fx:=[],sum:=[],nt:=14,pin:=0,nr:=true,ys:=[] }
theorem Z64:Sound Tryz.prog 232 (Ztd) :=
 Sound.shp (C:=Zel) (fn:=Tryz.f232) (by kernel_rfl) (c:=bodyOf Tryz.f232) (by kernel_rfl) (by decide) (ctxOK mixed tbl_ok rfl trivial trivial) (SumOK.of trivial) (by kernel_rfl) Zlg Zpf rfl (by decide) (by decide) rfl (by decide) rfl Z61 (fun x=>by kernel_rfl)
abbrev Zi4:Shape:={ sl:=[(0,(.yl 0)),(1,(.ptr 1 [])),(6,(.hole (.int .i64))),(7,(.hole (.int .i64)))],bl:=bl_6,ts:=[(.int .i64),(.int .i64),(.one y21),y0],pin:=3 }
abbrev Zgu:List (ETag × Shape):=[(.ret,{ sl:=[],bl:=bl_7,ts:=[(.int .i64),(.one y21),y0],pin:=3 }),(.exit 0,{ sl:=[],bl:=bl_6,ts:=[(.one y21),y0],pin:=3 })]
def Z9x (x:(Int × Int × T16 × List Int)):Option ((Int × Int × T16 × List Int) ⊕ (T33 ⊕ (T16 × List Int))) :=
 bif (decide (x.2.1 < x.1)) then
 (Z61 (x.2.2.1,x.2.1)).bind fun r15 =>
 bif (inb r15 (List.length x.2.2.1.2.2.1)) then
 (Z5n ((getAt (0:Int) x.2.2.1.2.2.1 (toN r15)),x.2.2.2)).bind fun r16 =>
 bif (eqI r16.1 (0:Int)) then
 some (.inl (x.1,(IntKind.wrap .i64 (x.2.1+(1:Int))),x.2.2.1,r16.2))
 else
 some (.inr (.inl (r16.1,x.2.2.1,r16.2)))
 else
 none
 else
 some (.inr (.inr (x.2.2.1,x.2.2.2)))
def Zek:Ctx:={ tb:=mkTb T2.tbl,fx:=[(232,[],Ztd)],sum:=[],nt:=22,pin:=3,nr:=true,ys:=[(10485766,[4],Spec.rnd [4,12] { sl:=[(4,(.ptr 0 [])),(12,(.hole (.int .i64)))],bl:=[.var (.sl 1),.row (.int .i64)],ts:=[(.int .i64),(.slice (.int .i64))],pin:=0 } { sl:=[(0,(.hole (.int .i64)))],bl:=[.var (.sl 1),.row (.int .i64)],ts:=[(.int .i64),(.slice (.int .i64))],pin:=1 } Z5n)] }
theorem Z9y:CSound Tryz.prog ⟨22,3,true⟩ (.loop (loopOf 2 Tryz.f231)) (Yav Zi4 Zgu (loop Z9x)) :=
 Y8e (C:=Zek) (ctxOK mixed tbl_ok rfl ⟨Z64,trivial⟩ ⟨Z5o,trivial⟩) (SumOK.of trivial) Zi4 Zgu rfl rfl Z9x (fun x=>by kernel_rfl)
abbrev Zlf:Shape:={ sl:=[(0,(.yl 0)),(1,(.ptr 1 []))],bl:=bl_6,ts:=[(.one y21),y0],pin:=0 }
abbrev Zpe:Shape:={ sl:=[],bl:=bl_7,ts:=[(.int .i64),(.one y21),y0],pin:=3 }
def Z5y (x:(T16 × List Int)):Option T33 :=
 (loop Z9x (x.1.2.2.2,(0:Int),x.1,x.2)).bind fun r14 =>
 match r14 with
 | .inl y15 =>
 some (y15.1,y15.2.1,y15.2.2)
 | .inr y15 =>
 some ((0:Int),y15.1,y15.2)
abbrev Ztc:=Spec.shp Zlf Zpe Z5y
def Zej:Ctx:={ tb:=mkTb T2.tbl,fx:=[(232,[],Ztd)],sum:=[(0,2,Yav Zi4 Zgu (loop Z9x))],nt:=22,pin:=3,nr:=true,ys:=[(10485766,[4],Spec.rnd [4,12] Zl9 Zp8 Z5n)] }
theorem Z5z:Sound Tryz.prog 231 (Ztc) :=
 Sound.shp (C:=Zej) (fn:=Tryz.f231) (by kernel_rfl) (c:=bodyOf Tryz.f231) (by kernel_rfl) (by decide) (ctxOK mixed tbl_ok rfl ⟨Z64,trivial⟩ ⟨Z5o,trivial⟩) (SumOK.of ⟨(Yax (d:=.loop (loopOf 2 Tryz.f231)) (by kernel_rfl) Z9y),trivial⟩) (by kernel_rfl) Zlf Zpe rfl (by decide) (by decide) rfl (by decide) rfl Z5y (fun x=>by kernel_rfl)
abbrev Zl8:Shape:={ sl:=[(0,(.hole y21))],bl:=[],ts:=[y21],pin:=0 }
abbrev Zp7:Shape:={ sl:=sl_16,bl:=[],ts:=[y0,(.int .i64)],pin:=0 }
def Z5l (x:(T16)):Option T2 :=
 (Z5v x).bind fun r11 =>
 bif (Bool.not r11) then
 some (([]:List Int),(1:Int))
 else
 (Z5x x).bind fun r12 =>
 (Z5y (r12,([]:List Int))).bind fun r13 =>
 bif (eqI r13.1 (0:Int)) then
 some (r13.2.2,(0:Int))
 else
 bif (eqI r13.1 (1:Int)) then
 some (([]:List Int),(0:Int))
 else
 none
abbrev Zt6:=Spec.shp Zl8 Zp7 Z5l
def Zec:Ctx:={ tb:=mkTb T2.tbl,fx:=[(196,[],Zta),(197,[],Ztb)],sum:=[(3,6,Ybk (rfF (rfOf 6 Tryz.f160)) 10485766 [4] [] [(231,[11485766],Ztc)])],nt:=18,pin:=0,nr:=true,ys:=[] }
theorem Z5m:Sound Tryz.prog 160 (Zt6) :=
 Sound.shp (C:=Zec) (fn:=Tryz.f160) (by kernel_rfl) (c:=bodyOf Tryz.f160) (by kernel_rfl) (by decide) (ctxOK mixed tbl_ok rfl ⟨Z5w,Z60,trivial⟩ trivial) (SumOK.of ⟨(Yax (d:=rfOf 6 Tryz.f160) (by kernel_rfl) (Ybm (c:=rfOf 6 Tryz.f160) rfl (by kernel_rfl) Z5z [4] [])),trivial⟩) (by kernel_rfl) Zl8 Zp7 rfl (by decide) (by decide) rfl (by decide) rfl Z5l (fun x=>by kernel_rfl)
abbrev Zme:Shape:={ sl:=sl_17,bl:=[],ts:=[y5],pin:=0 }
abbrev Zqd:Shape:={ sl:=sl_1,bl:=[],ts:=ts_1,pin:=0 }
def Z7z (x:(T7)):Option (Bool) :=
 bif (decide (x.1 ≥ (0:Int))) then
 bif (decide (x.2.1 ≥ (0:Int))) then
 some (decide (x.2.2 ≥ (0:Int)))
 else
 some false
 else
 some false
abbrev Zub:=Spec.shp Zme Zqd Z7z
def Zfu:Ctx:={ tb:=mkTb T2.tbl,fx:=[],sum:=[],nt:=16,pin:=0,nr:=true,ys:=[] }
theorem Z80:Sound Tryz.prog 199 (Zub) :=
 Sound.shp (C:=Zfu) (fn:=Tryz.f199) (by kernel_rfl) (c:=bodyOf Tryz.f199) (by kernel_rfl) (by decide) (ctxOK mixed tbl_ok rfl trivial trivial) (SumOK.of trivial) (by kernel_rfl) Zme Zqd rfl (by decide) (by decide) rfl (by decide) rfl Z7z (fun x=>by kernel_rfl)
abbrev Zmd:Shape:={ sl:=sl_17,bl:=[],ts:=[y5],pin:=0 }
abbrev Zqc:Shape:={ sl:=sl_1,bl:=[],ts:=ts_1,pin:=0 }
def Z7w (x:(T7)):Option (Bool) :=
 (Z7z x).bind fun r16 =>
 some (Bool.not r16)
abbrev Zua:=Spec.shp Zmd Zqc Z7w
def Zft:Ctx:={ tb:=mkTb T2.tbl,fx:=[(199,[],Zub)],sum:=[],nt:=6,pin:=0,nr:=true,ys:=[] }
theorem Z7x:Sound Tryz.prog 198 (Zua) :=
 Sound.shp (C:=Zft) (fn:=Tryz.f198) (by kernel_rfl) (c:=bodyOf Tryz.f198) (by kernel_rfl) (by decide) (ctxOK mixed tbl_ok rfl ⟨Z80,trivial⟩ trivial) (SumOK.of trivial) (by kernel_rfl) Zmd Zqc rfl (by decide) (by decide) rfl (by decide) rfl Z7w (fun x=>by kernel_rfl)
abbrev Zid:Shape:={ sl:=[(0,(.hole (.slice y5))),(1,(.fn 198 .nil .nil)),(7,(.hole (.int .i64))),(8,(.hole (.int .i64)))],bl:=[],ts:=[(.slice y5),(.int .i64),(.int .i64)],pin:=0 }
abbrev Zh3:List (ETag × Shape):=[(.ret,{ sl:=sl_3,bl:=[],ts:=ts_2,pin:=0 }),(.exit 0,{ sl:=[],bl:=[],ts:=[],pin:=0 })]
def Zaf (x:(List (T7) × Int × Int)):Option ((List (T7) × Int × Int) ⊕ ((Int) ⊕ Unit)) :=
 bif (decide (x.2.2 < x.2.1)) then
 bif (inb x.2.2 (List.length x.1)) then
 (Z7w (getAt ((0:Int),(0:Int),(0:Int)) x.1 (toN x.2.2))).bind fun r15 =>
 bif r15 then
 some (.inr (.inl x.2.2))
 else
 some (.inl (x.1,x.2.1,(IntKind.wrap .i64 (x.2.2+(1:Int)))))
 else
 none
 else
 some (.inr (.inr ()))
def Zfi:Ctx:={ tb:=mkTb T2.tbl,fx:=[(198,[],Zua)],sum:=[],nt:=19,pin:=0,nr:=true,ys:=[] }
theorem Zag:CSound Tryz.prog ⟨19,0,true⟩ (.loop (loopOf 3 Tryz.f163)) (Yav Zid Zh3 (loop Zaf)) :=
 Y8e (C:=Zfi) (ctxOK mixed tbl_ok rfl ⟨Z7x,trivial⟩ trivial) (SumOK.of trivial) Zid Zh3 rfl rfl Zaf (fun x=>by kernel_rfl)
abbrev Zm4:Shape:={ sl:=[(0,(.hole (.slice y5))),(1,(.fn 198 .nil .nil))],bl:=[],ts:=[(.slice y5)],pin:=0 }
abbrev Zq3:Shape:={ sl:=sl_2,bl:=[],ts:=ts_2,pin:=0 }
def Z7d (x:(List (T7))):Option (Int) :=
 (loop Zaf (x,(((List.length x):Nat):Int),(0:Int))).bind fun r14 =>
 match r14 with
 | .inl y15 =>
 some y15
 | .inr y15 =>
 some (Int.negSucc 0)
abbrev Zu1:=Spec.shp Zm4 Zq3 Z7d
def Zfh:Ctx:={ tb:=mkTb T2.tbl,fx:=[(198,[],Zua)],sum:=[(0,3,Yav Zid Zh3 (loop Zaf))],nt:=19,pin:=0,nr:=true,ys:=[] }
theorem Z7e:Sound Tryz.prog 163 (Zu1) :=
 Sound.shp (C:=Zfh) (fn:=Tryz.f163) (by kernel_rfl) (c:=bodyOf Tryz.f163) (by kernel_rfl) (by decide) (ctxOK mixed tbl_ok rfl ⟨Z7x,trivial⟩ trivial) (SumOK.of ⟨(Yax (d:=.loop (loopOf 3 Tryz.f163)) (by kernel_rfl) Zag),trivial⟩) (by kernel_rfl) Zm4 Zq3 rfl (by decide) (by decide) rfl (by decide) rfl Z7d (fun x=>by kernel_rfl)
abbrev Zlt:Shape:={ sl:=[(0,(.hole (.slice y5))),(1,(.fn 198 .nil .nil))],bl:=[],ts:=[(.slice y5)],pin:=0 }
abbrev Zps:Shape:={ sl:=sl_1,bl:=[],ts:=ts_1,pin:=0 }
def Z6r (x:(List (T7))):Option (Bool) :=
 (Z7d x).bind fun r13 =>
 some (decide (r13 ≥ (0:Int)))
abbrev Ztq:=Spec.shp Zlt Zps Z6r
def Zey:Ctx:={ tb:=mkTb T2.tbl,fx:=[(163,[198],Zu1)],sum:=[],nt:=9,pin:=0,nr:=true,ys:=[] }
theorem Z6s:Sound Tryz.prog 113 (Ztq) :=
 Sound.shp (C:=Zey) (fn:=Tryz.f113) (by kernel_rfl) (c:=bodyOf Tryz.f113) (by kernel_rfl) (by decide) (ctxOK mixed tbl_ok rfl ⟨Z7e,trivial⟩ trivial) (SumOK.of trivial) (by kernel_rfl) Zlt Zps rfl (by decide) (by decide) rfl (by decide) rfl Z6r (fun x=>by kernel_rfl)
abbrev Zig:Shape:={ sl:=[(3,(.mp 0)),(7,(.hole (.slice y5))),(8,(.hole (.int .i64))),(9,(.hole (.int .i64)))],bl:=[.mp y4 (.int .i64)],ts:=[(.slice y5),(.int .i64),(.int .i64),(.slice y8)],pin:=0 }
abbrev Zh6:List (ETag × Shape):=[(.exit 0,{ sl:=[(3,(.mp 0))],bl:=[.mp y4 (.int .i64)],ts:=[(.slice y8)],pin:=0 })]
def Zal (x:(List (T7) × Int × Int × List (T8))):Option ((List (T7) × Int × Int × List (T8)) ⊕ (List (T8))) :=
 bif (decide (x.2.2.1 < x.2.1)) then
 bif (inb x.2.2.1 (List.length x.1)) then
 bif (inb (natI (@mpos (Int × Int) (Int) (Ty.beq y4) ((getAt ((0:Int),(0:Int),(0:Int)) x.1 (toN x.2.2.1)).1,(getAt ((0:Int),(0:Int),(0:Int)) x.1 (toN x.2.2.1)).2.1) x.2.2.2)) (List.length (@mput (Int × Int) (Int) (Ty.beq y4) ((getAt ((0:Int),(0:Int),(0:Int)) x.1 (toN x.2.2.1)).1,(getAt ((0:Int),(0:Int),(0:Int)) x.1 (toN x.2.2.1)).2.1) (@mlook (Int × Int) (Int) (Ty.beq y4) (Ty.zero (.int .i64)) ((getAt ((0:Int),(0:Int),(0:Int)) x.1 (toN x.2.2.1)).1,(getAt ((0:Int),(0:Int),(0:Int)) x.1 (toN x.2.2.1)).2.1) x.2.2.2) x.2.2.2))) then
 some (.inl (x.1,x.2.1,(IntKind.wrap .i64 (x.2.2.1+(1:Int))),(mset (@mput (Int × Int) (Int) (Ty.beq y4) ((getAt ((0:Int),(0:Int),(0:Int)) x.1 (toN x.2.2.1)).1,(getAt ((0:Int),(0:Int),(0:Int)) x.1 (toN x.2.2.1)).2.1) (@mlook (Int × Int) (Int) (Ty.beq y4) (Ty.zero (.int .i64)) ((getAt ((0:Int),(0:Int),(0:Int)) x.1 (toN x.2.2.1)).1,(getAt ((0:Int),(0:Int),(0:Int)) x.1 (toN x.2.2.1)).2.1) x.2.2.2) x.2.2.2) (toN (natI (@mpos (Int × Int) (Int) (Ty.beq y4) ((getAt ((0:Int),(0:Int),(0:Int)) x.1 (toN x.2.2.1)).1,(getAt ((0:Int),(0:Int),(0:Int)) x.1 (toN x.2.2.1)).2.1) x.2.2.2))) (IntKind.wrap .i64 ((@mlook (Int × Int) (Int) (Ty.beq y4) (Ty.zero (.int .i64)) ((getAt ((0:Int),(0:Int),(0:Int)) x.1 (toN x.2.2.1)).1,(getAt ((0:Int),(0:Int),(0:Int)) x.1 (toN x.2.2.1)).2.1) x.2.2.2)+(1:Int))))))
 else
 none
 else
 none
 else
 some (.inr x.2.2.2)
def Zfw:Ctx:={ tb:=mkTb T2.tbl,fx:=[],sum:=[],nt:=25,pin:=0,nr:=true,ys:=[] }
theorem Zam:CSound Tryz.prog ⟨25,0,true⟩ (.loop (loopOf 4 Tryz.f200)) (Yav Zig Zh6 (loop Zal)) :=
 Y8e (C:=Zfw) (ctxOK mixed tbl_ok rfl trivial trivial) (SumOK.of trivial) Zig Zh6 rfl rfl Zal (fun x=>by kernel_rfl)
abbrev Zmf:Shape:={ sl:=sl_18,bl:=[],ts:=[(.slice y5)],pin:=0 }
abbrev Zqe:Shape:={ sl:=[(0,(.mp 0))],bl:=[.mp y4 (.int .i64)],ts:=[(.slice y8)],pin:=0 }
def Z81 (x:(List (T7))):Option (List (T8)) :=
 (loop Zal (x,(((List.length x):Nat):Int),(0:Int),([]:List T8))).bind fun r14 =>
 some r14
abbrev Zuc:=Spec.shp Zmf Zqe Z81
def Zfv:Ctx:={ tb:=mkTb T2.tbl,fx:=[],sum:=[(0,4,Yav Zig Zh6 (loop Zal))],nt:=25,pin:=0,nr:=true,ys:=[] }
theorem Z82:Sound Tryz.prog 200 (Zuc) :=
 Sound.shp (C:=Zfv) (fn:=Tryz.f200) (by kernel_rfl) (c:=bodyOf Tryz.f200) (by kernel_rfl) (by decide) (ctxOK mixed tbl_ok rfl trivial trivial) (SumOK.of ⟨(Yax (d:=.loop (loopOf 4 Tryz.f200)) (by kernel_rfl) Zam),trivial⟩) (by kernel_rfl) Zmf Zqe rfl (by decide) (by decide) rfl (by decide) rfl Z81 (fun x=>by kernel_rfl)
abbrev Zmc:Shape:={ sl:=sl_18,bl:=[],ts:=[(.slice y5)],pin:=0 }
abbrev Zqb:Shape:={ sl:=sl_1,bl:=[],ts:=ts_1,pin:=0 }
def Z7v (x:(List (T7))):Option (Bool) :=
 (Z6r x).bind fun r12 =>
 bif r12 then
 some false
 else
 bif (decide ((((List.length x):Nat):Int) ≤ (64:Int))) then
 (Z81 x).bind fun r13 =>
 some ((((List.length r13):Nat):Int) == (((List.length x):Nat):Int))
 else
 some false
abbrev Zu9:=Spec.shp Zmc Zqb Z7v
def Zfs:Ctx:={ tb:=mkTb T2.tbl,fx:=[(113,[198],Ztq),(200,[],Zuc)],sum:=[],nt:=16,pin:=0,nr:=true,ys:=[] }
theorem Z7y:Sound Tryz.prog 161 (Zu9) :=
 Sound.shp (C:=Zfs) (fn:=Tryz.f161) (by kernel_rfl) (c:=bodyOf Tryz.f161) (by kernel_rfl) (by decide) (ctxOK mixed tbl_ok rfl ⟨Z6s,Z82,trivial⟩ trivial) (SumOK.of trivial) (by kernel_rfl) Zmc Zqb rfl (by decide) (by decide) rfl (by decide) rfl Z7v (fun x=>by kernel_rfl)
abbrev Zh7:Shape:={ sl:=[(0,(.hole y0)),(1,(.hole (.int .i64))),(2,(.hole (.int .i64))),(9,(.hole y0)),(10,(.hole (.int .i64))),(11,(.hole (.int .i64)))],bl:=[],ts:=[y0,(.int .i64),(.int .i64),y0,(.int .i64),(.int .i64)],pin:=0 }
abbrev Zfx:List (ETag × Shape):=[(.ret,{ sl:=[(6,(.hole .bool))],bl:=[],ts:=ts_1,pin:=0 }),(.exit 0,{ sl:=sl_19,bl:=[],ts:=ts_3,pin:=0 })]
def Z83 (x:(List Int × Int × Int × List Int × Int × Int)):Option ((List Int × Int × Int × List Int × Int × Int) ⊕ ((Bool) ⊕ T9)) :=
 bif (decide (x.2.2.2.2.2 < x.2.2.2.2.1)) then
 bif (inb x.2.2.2.2.2 (List.length x.2.2.2.1)) then
 bif ((getAt (0:Int) x.2.2.2.1 (toN x.2.2.2.2.2)) != (IntKind.wrap .i64 (x.2.1+x.2.2.2.2.2))) then
 some (.inr (.inl false))
 else
 some (.inl (x.1,x.2.1,x.2.2.1,x.2.2.2.1,x.2.2.2.2.1,(IntKind.wrap .i64 (x.2.2.2.2.2+(1:Int)))))
 else
 none
 else
 some (.inr (.inr (x.1,x.2.1,x.2.2.1)))
def Zaw:Ctx:={ tb:=mkTb T2.tbl,fx:=[],sum:=[],nt:=28,pin:=0,nr:=true,ys:=[] }
theorem Z84:CSound Tryz.prog ⟨28,0,true⟩ (.loop (loopOf 3 Tryz.f162)) (Yav Zh7 Zfx (loop Z83)) :=
 Y8e (C:=Zaw) (ctxOK mixed tbl_ok rfl trivial trivial) (SumOK.of trivial) Zh7 Zfx rfl rfl Z83 (fun x=>by kernel_rfl)
abbrev Zip:Shape:={ sl:=sl_19,bl:=[],ts:=ts_3,pin:=0 }
abbrev Zmo:Shape:={ sl:=sl_1,bl:=[],ts:=ts_1,pin:=0 }
def Zg (x:T9):Option (Bool) :=
 (loop Z83 (x.1,x.2.1,x.2.2,x.1,(((List.length x.1):Nat):Int),(0:Int))).bind fun r14 =>
 match r14 with
 | .inl y15 =>
 some y15
 | .inr y15 =>
 some ((((List.length y15.1):Nat):Int) == (IntKind.wrap .i64 (y15.2.2 - y15.2.1)))
abbrev Zqn:=Spec.shp Zip Zmo Zg
def Zav:Ctx:={ tb:=mkTb T2.tbl,fx:=[],sum:=[(0,3,Yav Zh7 Zfx (loop Z83))],nt:=28,pin:=0,nr:=true,ys:=[] }
theorem Zh:Sound Tryz.prog 162 (Zqn) :=
 Sound.shp (C:=Zav) (fn:=Tryz.f162) (by kernel_rfl) (c:=bodyOf Tryz.f162) (by kernel_rfl) (by decide) (ctxOK mixed tbl_ok rfl trivial trivial) (SumOK.of ⟨(Yax (d:=.loop (loopOf 3 Tryz.f162)) (by kernel_rfl) Z84),trivial⟩) (by kernel_rfl) Zip Zmo rfl (by decide) (by decide) rfl (by decide) rfl Zg (fun x=>by kernel_rfl)
abbrev Zim:Shape:={ sl:=[(0,(.hole y40))],bl:=[],ts:=[y40],pin:=0 }
abbrev Zml:Shape:={ sl:=sl_1,bl:=[],ts:=ts_1,pin:=0 }
def Za (x:T43):Option (Bool) :=
 (Z5l x.2.2.1).bind fun r10 =>
 bif (r10.2 != (0:Int)) then
 some false
 else
 bif (decide (x.1 < (Int.negSucc 0))) then
 some false
 else
 bif (decide (x.1 > (3:Int))) then
 some false
 else
 bif (x.2.2.1.1 != (Max.max x.1 (0:Int))) then
 some false
 else
 (Z7v x.2.2.2.2.2.1).bind fun r11 =>
 bif (Bool.not r11) then
 some false
 else
 (Z7v x.2.2.2.2.2.2).bind fun r12 =>
 bif (Bool.not r12) then
 some false
 else
 bif (decide (x.2.2.2.1 < (0:Int))) then
 some false
 else
 bif (decide (x.2.2.2.1 > (1048576:Int))) then
 some false
 else
 bif (decide (x.2.2.2.2.1 < (0:Int))) then
 some false
 else
 bif (decide (x.2.2.2.2.1 > x.2.2.2.1)) then
 some false
 else
 (Zg (r10.1,x.2.2.2.2.1,x.2.2.2.1)).bind fun r13 =>
 bif (Bool.not r13) then
 some false
 else
 bif (decide (x.1 < (0:Int))) then
 bif (Bool.not x.2.1) then
 bif (x.2.2.2.1 == (0:Int)) then
 bif (Bool.not (decide ((((List.length x.2.2.2.2.2.1):Nat):Int) > (0:Int)))) then
 some (Bool.not (decide ((((List.length x.2.2.2.2.2.2):Nat):Int) > (0:Int))))
 else
 some false
 else
 some false
 else
 some false
 else
 bif x.2.1 then
 bif (Bool.not (decide ((((List.length x.2.2.2.2.2.1):Nat):Int) > (0:Int)))) then
 some (Bool.not (decide ((((List.length x.2.2.2.2.2.2):Nat):Int) > (0:Int))))
 else
 some false
 else
 bif (Bool.not (decide ((((List.length x.2.2.2.2.2.1):Nat):Int) > (0:Int)))) then
 bif (Bool.not (decide ((((List.length x.2.2.2.2.2.2):Nat):Int) > (0:Int)))) then
 some true
 else
 some ((((List.length r10.1):Nat):Int) == (0:Int))
 else
 bif ((((List.length r10.1):Nat):Int) == x.1) then
 bif (Bool.not (decide ((((List.length x.2.2.2.2.2.2):Nat):Int) > (0:Int)))) then
 some true
 else
 some ((((List.length r10.1):Nat):Int) == (0:Int))
 else
 some false
abbrev Zqk:=Spec.shp Zim Zml Za
def Zas:Ctx:={ tb:=mkTb T2.tbl,fx:=[(160,[],Zt6),(161,[],Zu9),(162,[],Zqn)],sum:=[],nt:=130,pin:=0,nr:=true,ys:=[] }
theorem Zb:Sound Tryz.prog 112 (Zqk) :=
 Sound.shp (C:=Zas) (fn:=Tryz.f112) (by kernel_rfl) (c:=bodyOf Tryz.f112) (by kernel_rfl) (by decide) (ctxOK mixed tbl_ok rfl ⟨Z5m,Z7y,Zh,trivial⟩ trivial) (SumOK.of trivial) (by kernel_rfl) Zim Zml rfl (by decide) (by decide) rfl (by decide) rfl Za (fun x=>by kernel_rfl)
abbrev Zj9:Shape:={ sl:=[(0,(.hole .bool)),(1,(.ptr 0 [])),(2,(.ptr 1 []))],bl:=[.var (.hole y45),.var (.hole (.int .i64))],ts:=[.bool,y45,(.int .i64)],pin:=0 }
abbrev Zn8:Shape:={ sl:=[(0,(.fn 110 .nil (.cons (.ptr 0 []) (.cons (.ptr 1 []) (.cons (.ptr 2 []) .nil)))))],bl:=bl_8,ts:=[y45,(.int .i64),.bool],pin:=2 }
def Z1l (x:(Bool × (T47 × T61) × Int)):Option ((T47 × T61) × Int × Bool) :=
 some (x.2.1,x.2.2,x.1)
abbrev Zr7:=Spec.shp Zj9 Zn8 Z1l
def Zbk:Ctx:={ tb:=mkTb T2.tbl,fx:=[],sum:=[],nt:=6,pin:=2,nr:=true,ys:=[] }
theorem Z1o:Sound Tryz.prog 109 (Zr7) :=
 Sound.shp (C:=Zbk) (fn:=Tryz.f109) (by kernel_rfl) (c:=bodyOf Tryz.f109) (by kernel_rfl) (by decide) (ctxOK mixed tbl_ok rfl trivial trivial) (SumOK.of trivial) (by kernel_rfl) Zj9 Zn8 rfl (by decide) (by decide) rfl (by decide) rfl Z1l (fun x=>by kernel_rfl)
abbrev Zk4:Shape:={ sl:=[(0,(.hole y45)),(1,(.hole y5))],bl:=[],ts:=[y45,y5],pin:=0 }
abbrev Zo3:Shape:={ sl:=[(0,(.hole y5)),(1,(.hole .bool))],bl:=[],ts:=[y5,.bool],pin:=0 }
def Z3d (x:((T47 × T61) × T7)):Option (T7 × Bool) :=
 bif (decide (x.2.1 ≥ (((List.length x.1.2.1):Nat):Int))) then
 some (((0:Int),(0:Int),(0:Int)),false)
 else
 bif (inb x.2.1 (List.length x.1.2.1)) then
 bif ((getAt ((0:Int),(0:Int),(0:Int),false) x.1.2.1 (toN x.2.1)).2.2.1 != (1:Int)) then
 some (((0:Int),(0:Int),(0:Int)),false)
 else
 bif (inb x.2.1 (List.length x.1.2.1)) then
 bif (inb (getAt ((0:Int),(0:Int),(0:Int),false) x.1.2.1 (toN x.2.1)).1 (List.length x.1.1.2.2.2.2.2)) then
 bif (inb (getAt ((0:Int),(0:Int),(0:Int),false) x.1.2.1 (toN x.2.1)).2.1 (List.length (getAt ([]:List T7) x.1.1.2.2.2.2.2 (toN (getAt ((0:Int),(0:Int),(0:Int),false) x.1.2.1 (toN x.2.1)).1)))) then
 some ((getAt ((0:Int),(0:Int),(0:Int)) (getAt ([]:List T7) x.1.1.2.2.2.2.2 (toN (getAt ((0:Int),(0:Int),(0:Int),false) x.1.2.1 (toN x.2.1)).1)) (toN (getAt ((0:Int),(0:Int),(0:Int),false) x.1.2.1 (toN x.2.1)).2.1)),true)
 else
 none
 else
 none
 else
 none
 else
 none
abbrev Zs2:=Spec.shp Zk4 Zo3 Z3d
def Zcl:Ctx:={ tb:=mkTb T2.tbl,fx:=[],sum:=[],nt:=41,pin:=0,nr:=true,ys:=[] }
theorem Z3e:Sound Tryz.prog 116 (Zs2) :=
 Sound.shp (C:=Zcl) (fn:=Tryz.f116) (by kernel_rfl) (c:=bodyOf Tryz.f116) (by kernel_rfl) (by decide) (ctxOK mixed tbl_ok rfl trivial trivial) (SumOK.of trivial) (by kernel_rfl) Zk4 Zo3 rfl (by decide) (by decide) rfl (by decide) rfl Z3d (fun x=>by kernel_rfl)
abbrev Zj4:Shape:={ sl:=[(0,(.hole y45)),(1,(.hole y5)),(2,(.hole (.int .i64))),(3,(.hole .bool))],bl:=[],ts:=[y45,y5,(.int .i64),.bool],pin:=0 }
abbrev Zn3:Shape:={ sl:=sl_1,bl:=[],ts:=ts_1,pin:=0 }
def Z1c (x:((T47 × T61) × T7 × Int × Bool)):Option (Bool) :=
 (Z3d (x.1,x.2.1)).bind fun r16 =>
 bif (Bool.not r16.2) then
 some false
 else
 bif (r16.1.1 == (4:Int)) then
 bif (inb r16.1.2.1 (List.length x.1.1.2.2.2.2.1)) then
 bif (decide (x.2.1.2.1 < (((List.length (getAt (([]:List T0),false) x.1.1.2.2.2.2.1 (toN r16.1.2.1)).1):Nat):Int))) then
 bif (inb x.2.1.2.1 (List.length (getAt (([]:List T0),false) x.1.1.2.2.2.2.1 (toN r16.1.2.1)).1)) then
 some (((getAt (false,(0:Int)) (getAt (([]:List T0),false) x.1.1.2.2.2.2.1 (toN r16.1.2.1)).1 (toN x.2.1.2.1)).1 == (x.2.2.2,x.2.2.1).1) && ((getAt (false,(0:Int)) (getAt (([]:List T0),false) x.1.1.2.2.2.2.1 (toN r16.1.2.1)).1 (toN x.2.1.2.1)).2 == (x.2.2.2,x.2.2.1).2))
 else
 none
 else
 some false
 else
 none
 else
 bif x.2.2.2 then
 some ((r16.1.1 == ((1:Int),x.2.2.1,(0:Int)).1) && ((r16.1.2.1 == ((1:Int),x.2.2.1,(0:Int)).2.1) && (r16.1.2.2 == ((1:Int),x.2.2.1,(0:Int)).2.2)))
 else
 some ((r16.1.1 == ((2:Int),x.2.2.1,(0:Int)).1) && ((r16.1.2.1 == ((2:Int),x.2.2.1,(0:Int)).2.1) && (r16.1.2.2 == ((2:Int),x.2.2.1,(0:Int)).2.2)))
abbrev Zr2:=Spec.shp Zj4 Zn3 Z1c
def Zbd:Ctx:={ tb:=mkTb T2.tbl,fx:=[(116,[],Zs2)],sum:=[],nt:=59,pin:=0,nr:=true,ys:=[] }
theorem Z1d:Sound Tryz.prog 111 (Zr2) :=
 Sound.shp (C:=Zbd) (fn:=Tryz.f111) (by kernel_rfl) (c:=bodyOf Tryz.f111) (by kernel_rfl) (by decide) (ctxOK mixed tbl_ok rfl ⟨Z3e,trivial⟩ trivial) (SumOK.of trivial) (by kernel_rfl) Zj4 Zn3 rfl (by decide) (by decide) rfl (by decide) rfl Z1c (fun x=>by kernel_rfl)
abbrev Zja:Shape:={ sl:=sl_20,bl:=bl_8,ts:=[y5,y45,(.int .i64),.bool],pin:=0 }
abbrev Zn9:Shape:={ sl:=sl_1,bl:=bl_8,ts:=[.bool,y45,(.int .i64),.bool],pin:=3 }
def Z1m (x:(T7 × (T47 × T61) × Int × Bool)):Option (Bool × (T47 × T61) × Int × Bool) :=
 (Z1c (x.2.1,x.1,x.2.2.1,x.2.2.2)).bind fun r15 =>
 some ((Bool.not r15),x.2.1,x.2.2.1,x.2.2.2)
abbrev Zr8:=Spec.shp Zja Zn9 Z1m
def Zbm:Ctx:={ tb:=mkTb T2.tbl,fx:=[(111,[],Zr2)],sum:=[],nt:=12,pin:=3,nr:=true,ys:=[] }
theorem Z1n:Sound Tryz.prog 110 (Zr8) :=
 Sound.shp (C:=Zbm) (fn:=Tryz.f110) (by kernel_rfl) (c:=bodyOf Tryz.f110) (by kernel_rfl) (by decide) (ctxOK mixed tbl_ok rfl ⟨Z1d,trivial⟩ trivial) (SumOK.of trivial) (by kernel_rfl) Zja Zn9 rfl (by decide) (by decide) rfl (by decide) rfl Z1m (fun x=>by kernel_rfl)
abbrev Zi9:Shape:={ sl:=[(0,(.hole (.slice y5))),(1,(.fn 110 .nil (.cons (.ptr 0 []) (.cons (.ptr 1 []) (.cons (.ptr 2 []) .nil))))),(7,(.hole (.int .i64))),(8,(.hole (.int .i64)))],bl:=bl_8,ts:=[(.slice y5),(.int .i64),(.int .i64),y45,(.int .i64),.bool],pin:=3 }
abbrev Zgz:List (ETag × Shape):=[(.ret,{ sl:=sl_3,bl:=bl_8,ts:=[(.int .i64),y45,(.int .i64),.bool],pin:=3 }),(.exit 0,{ sl:=[],bl:=bl_8,ts:=[y45,(.int .i64),.bool],pin:=3 })]
def Za7 (x:(List (T7) × Int × Int × (T47 × T61) × Int × Bool)):Option ((List (T7) × Int × Int × (T47 × T61) × Int × Bool) ⊕ ((Int × (T47 × T61) × Int × Bool) ⊕ ((T47 × T61) × Int × Bool))) :=
 bif (decide (x.2.2.1 < x.2.1)) then
 bif (inb x.2.2.1 (List.length x.1)) then
 (Z1m ((getAt ((0:Int),(0:Int),(0:Int)) x.1 (toN x.2.2.1)),x.2.2.2.1,x.2.2.2.2.1,x.2.2.2.2.2)).bind fun r14 =>
 bif r14.1 then
 some (.inr (.inl (x.2.2.1,r14.2.1,r14.2.2.1,r14.2.2.2)))
 else
 some (.inl (x.1,x.2.1,(IntKind.wrap .i64 (x.2.2.1+(1:Int))),r14.2.1,r14.2.2.1,r14.2.2.2))
 else
 none
 else
 some (.inr (.inr (x.2.2.2.1,x.2.2.2.2.1,x.2.2.2.2.2)))
def Zfa:Ctx:={ tb:=mkTb T2.tbl,fx:=[(110,[],Zr8)],sum:=[],nt:=19,pin:=3,nr:=true,ys:=[] }
theorem Za8:CSound Tryz.prog ⟨19,3,true⟩ (.loop (loopOf 3 Tryz.f163)) (Yav Zi9 Zgz (loop Za7)) :=
 Y8e (C:=Zfa) (ctxOK mixed tbl_ok rfl ⟨Z1n,trivial⟩ trivial) (SumOK.of trivial) Zi9 Zgz rfl rfl Za7 (fun x=>by kernel_rfl)
abbrev Zm0:Shape:={ sl:=sl_21,bl:=bl_8,ts:=[(.slice y5),y45,(.int .i64),.bool],pin:=0 }
abbrev Zpz:Shape:={ sl:=sl_2,bl:=bl_8,ts:=[(.int .i64),y45,(.int .i64),.bool],pin:=3 }
def Z75 (x:(List (T7) × (T47 × T61) × Int × Bool)):Option (Int × (T47 × T61) × Int × Bool) :=
 (loop Za7 (x.1,(((List.length x.1):Nat):Int),(0:Int),x.2.1,x.2.2.1,x.2.2.2)).bind fun r13 =>
 match r13 with
 | .inl y14 =>
 some (y14.1,y14.2.1,y14.2.2.1,y14.2.2.2)
 | .inr y14 =>
 some ((Int.negSucc 0),y14.1,y14.2.1,y14.2.2)
abbrev Ztx:=Spec.shp Zm0 Zpz Z75
def Zf9:Ctx:={ tb:=mkTb T2.tbl,fx:=[(110,[],Zr8)],sum:=[(0,3,Yav Zi9 Zgz (loop Za7))],nt:=19,pin:=3,nr:=true,ys:=[] }
theorem Z76:Sound Tryz.prog 163 (Ztx) :=
 Sound.shp (C:=Zf9) (fn:=Tryz.f163) (by kernel_rfl) (c:=bodyOf Tryz.f163) (by kernel_rfl) (by decide) (ctxOK mixed tbl_ok rfl ⟨Z1n,trivial⟩ trivial) (SumOK.of ⟨(Yax (d:=.loop (loopOf 3 Tryz.f163)) (by kernel_rfl) Za8),trivial⟩) (by kernel_rfl) Zm0 Zpz rfl (by decide) (by decide) rfl (by decide) rfl Z75 (fun x=>by kernel_rfl)
abbrev Zlr:Shape:={ sl:=sl_21,bl:=bl_8,ts:=[(.slice y5),y45,(.int .i64),.bool],pin:=0 }
abbrev Zpq:Shape:={ sl:=sl_1,bl:=bl_8,ts:=[.bool,y45,(.int .i64),.bool],pin:=3 }
def Z6n (x:(List (T7) × (T47 × T61) × Int × Bool)):Option (Bool × (T47 × T61) × Int × Bool) :=
 (Z75 (x.1,x.2.1,x.2.2.1,x.2.2.2)).bind fun r12 =>
 some ((decide (r12.1 ≥ (0:Int))),r12.2.1,r12.2.2.1,r12.2.2.2)
abbrev Zto:=Spec.shp Zlr Zpq Z6n
def Zew:Ctx:={ tb:=mkTb T2.tbl,fx:=[(163,[110],Ztx)],sum:=[],nt:=9,pin:=3,nr:=true,ys:=[] }
theorem Z6o:Sound Tryz.prog 113 (Zto) :=
 Sound.shp (C:=Zew) (fn:=Tryz.f113) (by kernel_rfl) (c:=bodyOf Tryz.f113) (by kernel_rfl) (by decide) (ctxOK mixed tbl_ok rfl ⟨Z76,trivial⟩ trivial) (SumOK.of trivial) (by kernel_rfl) Zlr Zpq rfl (by decide) (by decide) rfl (by decide) rfl Z6n (fun x=>by kernel_rfl)
abbrev Zhd:Shape:={ sl:=[(1,(.ptr 0 [])),(3,(.ptr 1 [])),(64,(.hole y41)),(65,(.hole (.int .i64))),(66,(.hole (.int .i64)))],bl:=[.var (.hole y45),.var (.hole y39)],ts:=[y41,(.int .i64),(.int .i64),y45,y39],pin:=0 }
abbrev Zg3:List (ETag × Shape):=[(.ret,{ sl:=[(2,(.hole .bool))],bl:=[],ts:=ts_1,pin:=0 }),(.exit 0,{ sl:=[(1,(.ptr 0 []))],bl:=bl_9,ts:=[y45],pin:=0 })]
def Z8f (x:(List T43 × Int × Int × (T47 × T61) × T47)):Option ((List T43 × Int × Int × (T47 × T61) × T47) ⊕ ((Bool) ⊕ T62)) :=
 bif (decide (x.2.2.1 < x.2.1)) then
 bif (inb x.2.2.1 (List.length x.1)) then
 (Za (getAt ((0:Int),false,((0:Int),(0:Int),([]:List Int),(0:Int)),(0:Int),(0:Int),([]:List T7),([]:List T7)) x.1 (toN x.2.2.1))).bind fun r9 =>
 bif (Bool.not r9) then
 some (.inr (.inl false))
 else
 bif (inb x.2.2.1 (List.length x.2.2.2.2.1)) then
 bif ((getAt ((0:Int),false,((0:Int),(0:Int),([]:List Int),(0:Int)),(0:Int),(0:Int),([]:List T7),([]:List T7)) x.1 (toN x.2.2.1)).1 != (getAt (0:Int) x.2.2.2.2.1 (toN x.2.2.1))) then
 some (.inr (.inl false))
 else
 (Z1l (true,x.2.2.2.1,x.2.2.1)).bind fun r10 =>
 (Z6n ((getAt ((0:Int),false,((0:Int),(0:Int),([]:List Int),(0:Int)),(0:Int),(0:Int),([]:List T7),([]:List T7)) x.1 (toN x.2.2.1)).2.2.2.2.2.1,r10.1,r10.2.1,r10.2.2)).bind fun r11 =>
 bif r11.1 then
 some (.inr (.inl false))
 else
 (Z1l (false,r11.2.1,r11.2.2.1)).bind fun r12 =>
 (Z6n ((getAt ((0:Int),false,((0:Int),(0:Int),([]:List Int),(0:Int)),(0:Int),(0:Int),([]:List T7),([]:List T7)) x.1 (toN x.2.2.1)).2.2.2.2.2.2,r12.1,r12.2.1,r12.2.2)).bind fun r13 =>
 bif r13.1 then
 some (.inr (.inl false))
 else
 some (.inl (x.1,x.2.1,(IntKind.wrap .i64 (x.2.2.1+(1:Int))),r13.2.1,x.2.2.2.2))
 else
 none
 else
 none
 else
 some (.inr (.inr x.2.2.2.1))
def Zbp:Ctx:={ tb:=mkTb T2.tbl,fx:=[(38,[],Zsq),(95,[107],Ztm),(112,[],Zqk),(109,[],Zr7),(113,[110],Zto)],sum:=[],nt:=141,pin:=0,nr:=true,ys:=[] }
theorem Z8g:CSound Tryz.prog ⟨141,0,true⟩ (.loop (loopOf 8 Tryz.f57)) (Yav Zhd Zg3 (loop Z8f)) :=
 Y8e (C:=Zbp) (ctxOK mixed tbl_ok rfl ⟨Z4q,Z6k,Zb,Z1o,Z6o,trivial⟩ trivial) (SumOK.of trivial) Zhd Zg3 rfl rfl Z8f (fun x=>by kernel_rfl)
abbrev Ziy:Shape:={ sl:=[(0,(.hole y15))],bl:=[],ts:=[y15],pin:=0 }
abbrev Zmx:Shape:={ sl:=sl_1,bl:=[],ts:=ts_1,pin:=0 }
def Z10 (x:(T18)):Option (Bool) :=
 (Z7v x.2).bind fun r12 =>
 bif r12 then
 bif x.1 then
 some true
 else
 some ((((List.length x.2):Nat):Int) == (0:Int))
 else
 some false
abbrev Zqw:=Spec.shp Ziy Zmx Z10
def Zb5:Ctx:={ tb:=mkTb T2.tbl,fx:=[(161,[],Zu9)],sum:=[],nt:=16,pin:=0,nr:=true,ys:=[] }
theorem Z11:Sound Tryz.prog 117 (Zqw) :=
 Sound.shp (C:=Zb5) (fn:=Tryz.f117) (by kernel_rfl) (c:=bodyOf Tryz.f117) (by kernel_rfl) (by decide) (ctxOK mixed tbl_ok rfl ⟨Z7y,trivial⟩ trivial) (SumOK.of trivial) (by kernel_rfl) Ziy Zmx rfl (by decide) (by decide) rfl (by decide) rfl Z10 (fun x=>by kernel_rfl)
abbrev Zjb:Shape:={ sl:=[(0,(.hole (.int .i64))),(1,(.hole (.int .i64))),(2,(.ptr 0 []))],bl:=bl_9,ts:=[(.int .i64),(.int .i64),y45],pin:=0 }
abbrev Zna:Shape:={ sl:=[(0,(.fn 115 .nil (.cons (.ptr 0 []) (.cons (.ptr 1 []) (.cons (.ptr 2 []) .nil)))))],bl:=bl_10,ts:=[y45,(.int .i64),(.int .i64)],pin:=1 }
def Z1p (x:(Int × Int × (T47 × T61))):Option ((T47 × T61) × Int × Int) :=
 some (x.2.2,x.1,x.2.1)
abbrev Zr9:=Spec.shp Zjb Zna Z1p
def Zbn:Ctx:={ tb:=mkTb T2.tbl,fx:=[],sum:=[],nt:=7,pin:=1,nr:=true,ys:=[] }
theorem Z1s:Sound Tryz.prog 114 (Zr9) :=
 Sound.shp (C:=Zbn) (fn:=Tryz.f114) (by kernel_rfl) (c:=bodyOf Tryz.f114) (by kernel_rfl) (by decide) (ctxOK mixed tbl_ok rfl trivial trivial) (SumOK.of trivial) (by kernel_rfl) Zjb Zna rfl (by decide) (by decide) rfl (by decide) rfl Z1p (fun x=>by kernel_rfl)
abbrev Zjc:Shape:={ sl:=sl_20,bl:=bl_10,ts:=[y5,y45,(.int .i64),(.int .i64)],pin:=0 }
abbrev Znb:Shape:={ sl:=sl_1,bl:=bl_10,ts:=[.bool,y45,(.int .i64),(.int .i64)],pin:=3 }
def Z1q (x:(T7 × (T47 × T61) × Int × Int)):Option (Bool × (T47 × T61) × Int × Int) :=
 (Z3d (x.2.1,x.1)).bind fun r17 =>
 bif (Bool.not r17.2) then
 some (true,x.2.1,x.2.2.1,x.2.2.2)
 else
 bif (r17.1.1 != x.2.2.1) then
 some (true,x.2.1,x.2.2.1,x.2.2.2)
 else
 some ((r17.1.2.1 != x.2.2.2),x.2.1,x.2.2.1,x.2.2.2)
abbrev Zra:=Spec.shp Zjc Znb Z1q
def Zbo:Ctx:={ tb:=mkTb T2.tbl,fx:=[(116,[],Zs2)],sum:=[],nt:=28,pin:=3,nr:=true,ys:=[] }
theorem Z1r:Sound Tryz.prog 115 (Zra) :=
 Sound.shp (C:=Zbo) (fn:=Tryz.f115) (by kernel_rfl) (c:=bodyOf Tryz.f115) (by kernel_rfl) (by decide) (ctxOK mixed tbl_ok rfl ⟨Z3e,trivial⟩ trivial) (SumOK.of trivial) (by kernel_rfl) Zjc Znb rfl (by decide) (by decide) rfl (by decide) rfl Z1q (fun x=>by kernel_rfl)
abbrev Zia:Shape:={ sl:=[(0,(.hole (.slice y5))),(1,(.fn 115 .nil (.cons (.ptr 0 []) (.cons (.ptr 1 []) (.cons (.ptr 2 []) .nil))))),(7,(.hole (.int .i64))),(8,(.hole (.int .i64)))],bl:=bl_10,ts:=[(.slice y5),(.int .i64),(.int .i64),y45,(.int .i64),(.int .i64)],pin:=3 }
abbrev Zh0:List (ETag × Shape):=[(.ret,{ sl:=sl_3,bl:=bl_10,ts:=[(.int .i64),y45,(.int .i64),(.int .i64)],pin:=3 }),(.exit 0,{ sl:=[],bl:=bl_10,ts:=[y45,(.int .i64),(.int .i64)],pin:=3 })]
def Za9 (x:(List (T7) × Int × Int × (T47 × T61) × Int × Int)):Option ((List (T7) × Int × Int × (T47 × T61) × Int × Int) ⊕ ((Int × (T47 × T61) × Int × Int) ⊕ ((T47 × T61) × Int × Int))) :=
 bif (decide (x.2.2.1 < x.2.1)) then
 bif (inb x.2.2.1 (List.length x.1)) then
 (Z1q ((getAt ((0:Int),(0:Int),(0:Int)) x.1 (toN x.2.2.1)),x.2.2.2.1,x.2.2.2.2.1,x.2.2.2.2.2)).bind fun r16 =>
 bif r16.1 then
 some (.inr (.inl (x.2.2.1,r16.2.1,r16.2.2.1,r16.2.2.2)))
 else
 some (.inl (x.1,x.2.1,(IntKind.wrap .i64 (x.2.2.1+(1:Int))),r16.2.1,r16.2.2.1,r16.2.2.2))
 else
 none
 else
 some (.inr (.inr (x.2.2.2.1,x.2.2.2.2.1,x.2.2.2.2.2)))
def Zfc:Ctx:={ tb:=mkTb T2.tbl,fx:=[(115,[],Zra)],sum:=[],nt:=19,pin:=3,nr:=true,ys:=[] }
theorem Zaa:CSound Tryz.prog ⟨19,3,true⟩ (.loop (loopOf 3 Tryz.f163)) (Yav Zia Zh0 (loop Za9)) :=
 Y8e (C:=Zfc) (ctxOK mixed tbl_ok rfl ⟨Z1r,trivial⟩ trivial) (SumOK.of trivial) Zia Zh0 rfl rfl Za9 (fun x=>by kernel_rfl)
abbrev Zm1:Shape:={ sl:=sl_22,bl:=bl_10,ts:=[(.slice y5),y45,(.int .i64),(.int .i64)],pin:=0 }
abbrev Zq0:Shape:={ sl:=sl_2,bl:=bl_10,ts:=[(.int .i64),y45,(.int .i64),(.int .i64)],pin:=3 }
def Z77 (x:(List (T7) × (T47 × T61) × Int × Int)):Option (Int × (T47 × T61) × Int × Int) :=
 (loop Za9 (x.1,(((List.length x.1):Nat):Int),(0:Int),x.2.1,x.2.2.1,x.2.2.2)).bind fun r15 =>
 match r15 with
 | .inl y16 =>
 some (y16.1,y16.2.1,y16.2.2.1,y16.2.2.2)
 | .inr y16 =>
 some ((Int.negSucc 0),y16.1,y16.2.1,y16.2.2)
abbrev Zty:=Spec.shp Zm1 Zq0 Z77
def Zfb:Ctx:={ tb:=mkTb T2.tbl,fx:=[(115,[],Zra)],sum:=[(0,3,Yav Zia Zh0 (loop Za9))],nt:=19,pin:=3,nr:=true,ys:=[] }
theorem Z78:Sound Tryz.prog 163 (Zty) :=
 Sound.shp (C:=Zfb) (fn:=Tryz.f163) (by kernel_rfl) (c:=bodyOf Tryz.f163) (by kernel_rfl) (by decide) (ctxOK mixed tbl_ok rfl ⟨Z1r,trivial⟩ trivial) (SumOK.of ⟨(Yax (d:=.loop (loopOf 3 Tryz.f163)) (by kernel_rfl) Zaa),trivial⟩) (by kernel_rfl) Zm1 Zq0 rfl (by decide) (by decide) rfl (by decide) rfl Z77 (fun x=>by kernel_rfl)
abbrev Zls:Shape:={ sl:=sl_22,bl:=bl_10,ts:=[(.slice y5),y45,(.int .i64),(.int .i64)],pin:=0 }
abbrev Zpr:Shape:={ sl:=sl_1,bl:=bl_10,ts:=[.bool,y45,(.int .i64),(.int .i64)],pin:=3 }
def Z6p (x:(List (T7) × (T47 × T61) × Int × Int)):Option (Bool × (T47 × T61) × Int × Int) :=
 (Z77 (x.1,x.2.1,x.2.2.1,x.2.2.2)).bind fun r14 =>
 some ((decide (r14.1 ≥ (0:Int))),r14.2.1,r14.2.2.1,r14.2.2.2)
abbrev Ztp:=Spec.shp Zls Zpr Z6p
def Zex:Ctx:={ tb:=mkTb T2.tbl,fx:=[(163,[115],Zty)],sum:=[],nt:=9,pin:=3,nr:=true,ys:=[] }
theorem Z6q:Sound Tryz.prog 113 (Ztp) :=
 Sound.shp (C:=Zex) (fn:=Tryz.f113) (by kernel_rfl) (c:=bodyOf Tryz.f113) (by kernel_rfl) (by decide) (ctxOK mixed tbl_ok rfl ⟨Z78,trivial⟩ trivial) (SumOK.of trivial) (by kernel_rfl) Zls Zpr rfl (by decide) (by decide) rfl (by decide) rfl Z6p (fun x=>by kernel_rfl)
abbrev Zhb:Shape:={ sl:=[(1,(.ptr 0 [])),(7,(.fn 114 .nil (.cons (.ptr 0 []) .nil))),(102,(.hole y19)),(103,(.hole (.int .i64))),(104,(.hole (.int .i64)))],bl:=bl_9,ts:=[y19,(.int .i64),(.int .i64),y45],pin:=0 }
abbrev Zg1:List (ETag × Shape):=[(.ret,{ sl:=[(2,(.hole .bool))],bl:=[],ts:=ts_1,pin:=0 }),(.exit 2,{ sl:=[(1,(.ptr 0 [])),(7,(.fn 114 .nil (.cons (.ptr 0 []) .nil)))],bl:=bl_9,ts:=[y45],pin:=0 })]
def Z8b (x:(List (T18) × Int × Int × (T47 × T61))):Option ((List (T18) × Int × Int × (T47 × T61)) ⊕ ((Bool) ⊕ T62)) :=
 bif (decide (x.2.2.1 < x.2.1)) then
 bif (inb x.2.2.1 (List.length x.1)) then
 (Z10 (getAt (false,([]:List T7)) x.1 (toN x.2.2.1))).bind fun r11 =>
 bif (Bool.not r11) then
 some (.inr (.inl false))
 else
 (Z1p ((5:Int),x.2.2.1,x.2.2.2)).bind fun r12 =>
 (Z6p ((getAt (false,([]:List T7)) x.1 (toN x.2.2.1)).2,r12.1,r12.2.1,r12.2.2)).bind fun r13 =>
 bif r13.1 then
 some (.inr (.inl false))
 else
 some (.inl (x.1,x.2.1,(IntKind.wrap .i64 (x.2.2.1+(1:Int))),r13.2.1))
 else
 none
 else
 some (.inr (.inr x.2.2.2))
def Zbj:Ctx:={ tb:=mkTb T2.tbl,fx:=[(38,[],Zsq),(95,[107],Ztm),(112,[],Zqk),(109,[],Zr7),(113,[110],Zto),(117,[],Zqw),(114,[],Zr9),(113,[115],Ztp)],sum:=[(0,8,Yav Zhd Zg3 (loop Z8f))],nt:=141,pin:=0,nr:=true,ys:=[] }
theorem Z8c:CSound Tryz.prog ⟨141,0,true⟩ (.loop (loopOf 16 Tryz.f57)) (Yav Zhb Zg1 (loop Z8b)) :=
 Y8e (C:=Zbj) (ctxOK mixed tbl_ok rfl ⟨Z4q,Z6k,Zb,Z1o,Z6o,Z11,Z1s,Z6q,trivial⟩ trivial) (SumOK.of ⟨(Yaw (by kernel_rfl)),trivial⟩) Zhb Zg1 rfl rfl Z8b (fun x=>by kernel_rfl)
abbrev Zlm:Shape:={ sl:=sl_18,bl:=[],ts:=[(.slice y5)],pin:=0 }
abbrev Zpl:Shape:={ sl:=[(0,(.sl 0))],bl:=[.row y5],ts:=[(.slice y5)],pin:=0 }
def Z6d (x:(List (T7))):Option (List (T7)) :=
 bif (@Nat.beq (List.length x) (0:Nat)) then
 amb (
 some ([]:List T7)) (
 bif (fits ((List.length ([]:List T7))+(List.length x))) then
 some (([]:List T7)++x)
 else
 none)
 else
 bif (fits ((List.length ([]:List T7))+(List.length x))) then
 some (([]:List T7)++x)
 else
 none
abbrev Ztj:=Spec.shp Zlm Zpl Z6d
def Zer:Ctx:={ tb:=mkTb T2.tbl,fx:=[],sum:=[],nt:=8,pin:=0,nr:=true,ys:=[] }
theorem Z6e:Sound Tryz.prog 202 (Ztj) :=
 Sound.shp (C:=Zer) (fn:=Tryz.f202) (by kernel_rfl) (c:=bodyOf Tryz.f202) (by kernel_rfl) (by decide) (ctxOK mixed tbl_ok rfl trivial trivial) (SumOK.of trivial) (by kernel_rfl) Zlm Zpl rfl (by decide) (by decide) rfl (by decide) rfl Z6d (fun x=>by kernel_rfl)
abbrev Zm8:Shape:={ sl:=[(0,(.hole y5)),(1,(.ptr 0 []))],bl:=bl_3,ts:=[y5,(.int .i64)],pin:=0 }
abbrev Zq7:Shape:={ sl:=sl_1,bl:=bl_3,ts:=[.bool,(.int .i64)],pin:=1 }
def Z7k (x:(T7 × Int)):Option T0 :=
 some ((x.1.1 == x.2),x.2)
abbrev Zu5:=Spec.shp Zm8 Zq7 Z7k
def Zfo:Ctx:={ tb:=mkTb T2.tbl,fx:=[],sum:=[],nt:=8,pin:=1,nr:=true,ys:=[] }
theorem Z7l:Sound Tryz.prog 203 (Zu5) :=
 Sound.shp (C:=Zfo) (fn:=Tryz.f203) (by kernel_rfl) (c:=bodyOf Tryz.f203) (by kernel_rfl) (by decide) (ctxOK mixed tbl_ok rfl trivial trivial) (SumOK.of trivial) (by kernel_rfl) Zm8 Zq7 rfl (by decide) (by decide) rfl (by decide) rfl Z7k (fun x=>by kernel_rfl)
theorem Z7m:Sound Tryz.prog 203 (Spec.shpR Zm8 Zq7 Z7k) :=
 Sound.shpR (fun x y h=>by have h:=Option.some.inj h; subst h; rfl) Z7l
abbrev Zib:Shape:={ sl:=[(0,(.sl 0)),(1,(.fn 203 .nil (.cons (.ptr 1 []) .nil))),(7,(.hole (.int .i64))),(8,(.hole (.int .i64)))],bl:=bl_11,ts:=[(.int .i64),(.int .i64),(.slice y5),(.int .i64)],pin:=2 }
abbrev Zh1:List (ETag × Shape):=[(.ret,{ sl:=sl_3,bl:=bl_11,ts:=[(.int .i64),(.slice y5),(.int .i64)],pin:=2 }),(.exit 0,{ sl:=[],bl:=bl_11,ts:=ts_12,pin:=2 })]
def Zab (x:(Int × Int × List (T7) × Int)):Option ((Int × Int × List (T7) × Int) ⊕ ((Int × List (T7) × Int) ⊕ T15)) :=
 bif (decide (x.2.1 < x.1)) then
 bif (inb x.2.1 (List.length x.2.2.1)) then
 (Z7k ((getAt ((0:Int),(0:Int),(0:Int)) x.2.2.1 (toN x.2.1)),x.2.2.2)).bind fun r21 =>
 bif r21.1 then
 some (.inr (.inl (x.2.1,x.2.2.1,x.2.2.2)))
 else
 some (.inl (x.1,(IntKind.wrap .i64 (x.2.1+(1:Int))),x.2.2.1,x.2.2.2))
 else
 none
 else
 some (.inr (.inr (x.2.2.1,x.2.2.2)))
def Zfe:Ctx:={ tb:=mkTb T2.tbl,fx:=[(203,[],Spec.shpR Zm8 Zq7 Z7k)],sum:=[],nt:=19,pin:=2,nr:=true,ys:=[] }
theorem Zac:CSound Tryz.prog ⟨19,2,true⟩ (.loop (loopOf 3 Tryz.f163)) (Yav Zib Zh1 (loop Zab)) :=
 Y8e (C:=Zfe) (ctxOK mixed tbl_ok rfl ⟨Z7m,trivial⟩ trivial) (SumOK.of trivial) Zib Zh1 rfl rfl Zab (fun x=>by kernel_rfl)
abbrev Zm2:Shape:={ sl:=[(0,(.sl 0)),(1,(.fn 203 .nil (.cons (.ptr 1 []) .nil)))],bl:=bl_11,ts:=ts_12,pin:=0 }
abbrev Zq1:Shape:={ sl:=sl_2,bl:=bl_11,ts:=[(.int .i64),(.slice y5),(.int .i64)],pin:=2 }
def Z79 (x:T15):Option (Int × List (T7) × Int) :=
 (loop Zab ((((List.length x.1):Nat):Int),(0:Int),x.1,x.2)).bind fun r20 =>
 match r20 with
 | .inl y21 =>
 some (y21.1,y21.2.1,y21.2.2)
 | .inr y21 =>
 some ((Int.negSucc 0),y21.1,y21.2)
abbrev Ztz:=Spec.shp Zm2 Zq1 Z79
def Zfd:Ctx:={ tb:=mkTb T2.tbl,fx:=[(203,[],Spec.shpR Zm8 Zq7 Z7k)],sum:=[(0,3,Yav Zib Zh1 (loop Zab))],nt:=19,pin:=2,nr:=true,ys:=[] }
theorem Z7a:Sound Tryz.prog 163 (Ztz) :=
 Sound.shp (C:=Zfd) (fn:=Tryz.f163) (by kernel_rfl) (c:=bodyOf Tryz.f163) (by kernel_rfl) (by decide) (ctxOK mixed tbl_ok rfl ⟨Z7m,trivial⟩ trivial) (SumOK.of ⟨(Yax (d:=.loop (loopOf 3 Tryz.f163)) (by kernel_rfl) Zac),trivial⟩) (by kernel_rfl) Zm2 Zq1 rfl (by decide) (by decide) rfl (by decide) rfl Z79 (fun x=>by kernel_rfl)
abbrev Zi5:Shape:={ sl:=[(0,(.sl 1)),(1,(.fn 203 .nil (.cons (.ptr 0 []) .nil))),(5,(.hole (.int .i64))),(6,(.hole (.int .i64)))],bl:=[.var (.hole (.int .i64)),.row y5],ts:=[(.int .i64),(.int .i64),(.int .i64),(.slice y5)],pin:=1 }
abbrev Zgv:List (ETag × Shape):=[(.exit 0,{ sl:=[(0,(.sl 1)),(5,(.hole (.int .i64)))],bl:=[.var (.hole (.int .i64)),.row y5],ts:=[(.int .i64),(.int .i64),(.slice y5)],pin:=1 })]
def Z9z (x:(Int × Int × Int × List (T7))):Option ((Int × Int × Int × List (T7)) ⊕ (Int × Int × List (T7))) :=
 bif (decide (x.2.1 < (((List.length x.2.2.2):Nat):Int))) then
 bif (inb x.2.1 (List.length x.2.2.2)) then
 (Z7k ((getAt ((0:Int),(0:Int),(0:Int)) x.2.2.2 (toN x.2.1)),x.2.2.1)).bind fun r21 =>
 bif (Bool.not r21.1) then
 bif (inb x.1 (List.length x.2.2.2)) then
 some (.inl ((IntKind.wrap .i64 (x.1+(1:Int))),(IntKind.wrap .i64 (x.2.1+(1:Int))),x.2.2.1,(List.set x.2.2.2 (toN x.1) (getAt ((0:Int),(0:Int),(0:Int)) x.2.2.2 (toN x.2.1)))))
 else
 none
 else
 some (.inl (x.1,(IntKind.wrap .i64 (x.2.1+(1:Int))),x.2.2.1,x.2.2.2))
 else
 none
 else
 some (.inr (x.1,x.2.2.1,x.2.2.2))
def Zf2:Ctx:={ tb:=mkTb T2.tbl,fx:=[(163,[2000000,203],Ztz),(203,[],Spec.shpR Zm8 Zq7 Z7k)],sum:=[],nt:=42,pin:=1,nr:=true,ys:=[] }
theorem Za0:CSound Tryz.prog ⟨42,1,true⟩ (.loop (loopOf 6 Tryz.f201)) (Yav Zi5 Zgv (loop Z9z)) :=
 Y8e (C:=Zf2) (ctxOK mixed tbl_ok rfl ⟨Z7a,Z7m,trivial⟩ trivial) (SumOK.of trivial) Zi5 Zgv rfl rfl Z9z (fun x=>by kernel_rfl)
abbrev Zlw:Shape:={ sl:=[(0,(.sl 1)),(1,(.fn 203 .nil (.cons (.ptr 0 []) .nil)))],bl:=[.var (.hole (.int .i64)),.row y5],ts:=[(.int .i64),(.slice y5)],pin:=0 }
abbrev Zpv:Shape:={ sl:=sl_18,bl:=bl_3,ts:=ts_12,pin:=1 }
def Z6x (x:T13):Option T15 :=
 (Z79 (x.2,x.1)).bind fun r19 =>
 bif (r19.1 == (Int.negSucc 0)) then
 some (r19.2.1,r19.2.2)
 else
 (loop Z9z (r19.1,(IntKind.wrap .i64 (r19.1+(1:Int))),r19.2.2,r19.2.1)).bind fun r20 =>
 bif (sub3 r20.1 (((List.length r20.2.2):Nat):Int) (List.length r20.2.2)) then
 bif (sub3 (0:Int) r20.1 (List.length (over r20.2.2 (List.replicate ((toN (((List.length r20.2.2):Nat):Int)) - (toN r20.1)) ((0:Int),(0:Int),(0:Int))) (toN r20.1) ((toN (((List.length r20.2.2):Nat):Int)) - (toN r20.1))))) then
 some ((cut (over r20.2.2 (List.replicate ((toN (((List.length r20.2.2):Nat):Int)) - (toN r20.1)) ((0:Int),(0:Int),(0:Int))) (toN r20.1) ((toN (((List.length r20.2.2):Nat):Int)) - (toN r20.1))) (toN (0:Int)) ((toN r20.1) - (toN (0:Int)))),r20.2.1)
 else
 none
 else
 none
abbrev Ztt:=Spec.shp Zlw Zpv Z6x
def Zf1:Ctx:={ tb:=mkTb T2.tbl,fx:=[(163,[2000000,203],Ztz),(203,[],Spec.shpR Zm8 Zq7 Z7k)],sum:=[(0,6,Yav Zi5 Zgv (loop Z9z))],nt:=42,pin:=1,nr:=true,ys:=[] }
theorem Z6y:Sound Tryz.prog 201 (Ztt) :=
 Sound.shp (C:=Zf1) (fn:=Tryz.f201) (by kernel_rfl) (c:=bodyOf Tryz.f201) (by kernel_rfl) (by decide) (ctxOK mixed tbl_ok rfl ⟨Z7a,Z7m,trivial⟩ trivial) (SumOK.of ⟨(Yax (d:=.loop (loopOf 6 Tryz.f201)) (by kernel_rfl) Za0),trivial⟩) (by kernel_rfl) Zlw Zpv rfl (by decide) (by decide) rfl (by decide) rfl Z6x (fun x=>by kernel_rfl)
abbrev Zm7:Shape:={ sl:=sl_23,bl:=[],ts:=ts_12,pin:=0 }
abbrev Zq6:Shape:={ sl:=sl_23,bl:=[],ts:=ts_12,pin:=0 }
def Z7j (x:T15):Option T15 :=
 (Z7v x.1).bind fun r16 =>
 bif (Bool.not r16) then
 some (([]:List T7),(1:Int))
 else
 bif (decide (x.2 < (0:Int))) then
 some (([]:List T7),(1:Int))
 else
 (Z6d x.1).bind fun r17 =>
 (Z6x (x.2,r17)).bind fun r18 =>
 some (r18.1,(0:Int))
abbrev Zu4:=Spec.shp Zm7 Zq6 Z7j
def Zfn:Ctx:={ tb:=mkTb T2.tbl,fx:=[(161,[],Zu9),(202,[],Ztj),(201,[2000000,203],Ztt)],sum:=[],nt:=17,pin:=0,nr:=true,ys:=[] }
theorem Z7n:Sound Tryz.prog 164 (Zu4) :=
 Sound.shp (C:=Zfn) (fn:=Tryz.f164) (by kernel_rfl) (c:=bodyOf Tryz.f164) (by kernel_rfl) (by decide) (ctxOK mixed tbl_ok rfl ⟨Z7y,Z6e,Z6y,trivial⟩ trivial) (SumOK.of trivial) (by kernel_rfl) Zm7 Zq6 rfl (by decide) (by decide) rfl (by decide) rfl Z7j (fun x=>by kernel_rfl)
abbrev Zk7:Shape:={ sl:=[(0,(.hole y23))],bl:=[],ts:=[y23],pin:=0 }
abbrev Zo6:Shape:={ sl:=sl_1,bl:=[],ts:=ts_1,pin:=0 }
def Z3j (x:T29):Option (Bool) :=
 bif (decide (x.2.1 < (0:Int))) then
 some false
 else
 (Z7v x.2.2).bind fun r14 =>
 bif (Bool.not r14) then
 some false
 else
 bif (x.1 == (1:Int)) then
 (Z7j (x.2.2,x.2.1)).bind fun r15 =>
 some ((((List.length r15.1):Nat):Int) == (((List.length x.2.2):Nat):Int))
 else
 bif (x.1 == (0:Int)) then
 bif (x.2.1 == (0:Int)) then
 some ((((List.length x.2.2):Nat):Int) == (0:Int))
 else
 some false
 else
 bif (x.1 == (2:Int)) then
 bif (x.2.1 == (0:Int)) then
 some ((((List.length x.2.2):Nat):Int) == (0:Int))
 else
 some false
 else
 some false
abbrev Zs5:=Spec.shp Zk7 Zo6 Z3j
def Zco:Ctx:={ tb:=mkTb T2.tbl,fx:=[(161,[],Zu9),(164,[],Zu4)],sum:=[],nt:=44,pin:=0,nr:=true,ys:=[] }
theorem Z3k:Sound Tryz.prog 118 (Zs5) :=
 Sound.shp (C:=Zco) (fn:=Tryz.f118) (by kernel_rfl) (c:=bodyOf Tryz.f118) (by kernel_rfl) (by decide) (ctxOK mixed tbl_ok rfl ⟨Z7y,Z7n,trivial⟩ trivial) (SumOK.of trivial) (by kernel_rfl) Zk7 Zo6 rfl (by decide) (by decide) rfl (by decide) rfl Z3j (fun x=>by kernel_rfl)
abbrev Zhc:Shape:={ sl:=[(7,(.fn 114 .nil (.cons (.ptr 0 []) .nil))),(122,(.hole y26)),(123,(.hole (.int .i64))),(124,(.hole (.int .i64)))],bl:=bl_9,ts:=[y26,(.int .i64),(.int .i64),y45],pin:=0 }
abbrev Zg2:List (ETag × Shape):=[(.ret,{ sl:=[(2,(.hole .bool))],bl:=[],ts:=ts_1,pin:=0 }),(.exit 4,{ sl:=[],bl:=[],ts:=[],pin:=0 })]
def Z8d (x:(List T29 × Int × Int × (T47 × T61))):Option ((List T29 × Int × Int × (T47 × T61)) ⊕ ((Bool) ⊕ Unit)) :=
 bif (decide (x.2.2.1 < x.2.1)) then
 bif (inb x.2.2.1 (List.length x.1)) then
 (Z3j (getAt ((0:Int),(0:Int),([]:List T7)) x.1 (toN x.2.2.1))).bind fun r13 =>
 bif (Bool.not r13) then
 some (.inr (.inl false))
 else
 (Z1p ((7:Int),x.2.2.1,x.2.2.2)).bind fun r14 =>
 (Z6p ((getAt ((0:Int),(0:Int),([]:List T7)) x.1 (toN x.2.2.1)).2.2,r14.1,r14.2.1,r14.2.2)).bind fun r15 =>
 bif r15.1 then
 some (.inr (.inl false))
 else
 some (.inl (x.1,x.2.1,(IntKind.wrap .i64 (x.2.2.1+(1:Int))),r15.2.1))
 else
 none
 else
 some (.inr (.inr ()))
def Zbl:Ctx:={ tb:=mkTb T2.tbl,fx:=[(38,[],Zsq),(95,[107],Ztm),(112,[],Zqk),(109,[],Zr7),(113,[110],Zto),(117,[],Zqw),(114,[],Zr9),(113,[115],Ztp),(118,[],Zs5)],sum:=[(0,8,Yav Zhd Zg3 (loop Z8f)),(0,16,Yav Zhb Zg1 (loop Z8b))],nt:=141,pin:=0,nr:=true,ys:=[] }
theorem Z8e:CSound Tryz.prog ⟨141,0,true⟩ (.loop (loopOf 22 Tryz.f57)) (Yav Zhc Zg2 (loop Z8d)) :=
 Y8e (C:=Zbl) (ctxOK mixed tbl_ok rfl ⟨Z4q,Z6k,Zb,Z1o,Z6o,Z11,Z1s,Z6q,Z3k,trivial⟩ trivial) (SumOK.of ⟨(Yaw (by kernel_rfl)),(Yaw (by kernel_rfl)),trivial⟩) Zhc Zg2 rfl rfl Z8d (fun x=>by kernel_rfl)
abbrev Zj7:Shape:={ sl:=[(0,(.hole y45))],bl:=[],ts:=[y45],pin:=0 }
abbrev Zn6:Shape:={ sl:=sl_1,bl:=[],ts:=ts_1,pin:=0 }
def Z1i (x:T62):Option (Bool) :=
 (Z4p x.1).bind fun r6 =>
 bif (Bool.not r6) then
 some false
 else
 bif (decide ((((List.length x.2.1):Nat):Int) < (1:Int))) then
 some false
 else
 bif (decide ((((List.length x.2.1):Nat):Int) > (8:Int))) then
 some false
 else
 bif ((((List.length x.2.2.1):Nat):Int) != (((List.length x.1.1):Nat):Int)) then
 some false
 else
 bif ((((List.length x.2.2.2.1):Nat):Int) != x.1.2.1) then
 some false
 else
 bif ((((List.length x.2.2.2.2.1):Nat):Int) != x.1.2.2.1) then
 some false
 else
 bif (decide (x.2.2.2.2.2.1 < (0:Int))) then
 some false
 else
 (Z6j (x.2.1,x.1)).bind fun r7 =>
 bif r7.1 then
 some false
 else
 (loop Z8f (x.2.2.1,(((List.length x.2.2.1):Nat):Int),(0:Int),x,r7.2)).bind fun r8 =>
 match r8 with
 | .inl y9 =>
 some y9
 | .inr y9 =>
 (loop Z8b (y9.2.2.2.1,(((List.length y9.2.2.2.1):Nat):Int),(0:Int),y9)).bind fun r10 =>
 match r10 with
 | .inl y11 =>
 some y11
 | .inr y11 =>
 (loop Z8d (y11.2.2.2.2.1,(((List.length y11.2.2.2.2.1):Nat):Int),(0:Int),y11)).bind fun r12 =>
 match r12 with
 | .inl y13 =>
 some y13
 | .inr y13 =>
 some true
abbrev Zr5:=Spec.shp Zj7 Zn6 Z1i
def Zbh:Ctx:={ tb:=mkTb T2.tbl,fx:=[(38,[],Zsq),(95,[107],Ztm),(112,[],Zqk),(109,[],Zr7),(113,[110],Zto),(117,[],Zqw),(114,[],Zr9),(113,[115],Ztp),(118,[],Zs5)],sum:=[(0,8,Yav Zhd Zg3 (loop Z8f)),(0,16,Yav Zhb Zg1 (loop Z8b)),(0,22,Yav Zhc Zg2 (loop Z8d))],nt:=141,pin:=0,nr:=true,ys:=[] }
theorem Z1t:Sound Tryz.prog 57 (Zr5) :=
 Sound.shp (C:=Zbh) (fn:=Tryz.f57) (by kernel_rfl) (c:=bodyOf Tryz.f57) (by kernel_rfl) (by decide) (ctxOK mixed tbl_ok rfl ⟨Z4q,Z6k,Zb,Z1o,Z6o,Z11,Z1s,Z6q,Z3k,trivial⟩ trivial) (SumOK.of ⟨(Yax (d:=.loop (loopOf 8 Tryz.f57)) (by kernel_rfl) Z8g),(Yax (d:=.loop (loopOf 16 Tryz.f57)) (by kernel_rfl) Z8c),(Yax (d:=.loop (loopOf 22 Tryz.f57)) (by kernel_rfl) Z8e),trivial⟩) (by kernel_rfl) Zj7 Zn6 rfl (by decide) (by decide) rfl (by decide) rfl Z1i (fun x=>by kernel_rfl)
abbrev Zir:Shape:={ sl:=sl_15,bl:=bl_12,ts:=[y42],pin:=0 }
abbrev Zmq:Shape:={ sl:=sl_1,bl:=bl_12,ts:=[.bool,y42],pin:=1 }
def Zl (x:(T46)):Option (Bool × T46) :=
 some ((decide (x.1.1 < (0:Int))),x)
abbrev Zqp:=Spec.shp Zir Zmq Zl
def Zay:Ctx:={ tb:=mkTb T2.tbl,fx:=[],sum:=[],nt:=9,pin:=1,nr:=true,ys:=[] }
theorem Zm:Sound Tryz.prog 165 (Zqp) :=
 Sound.shp (C:=Zay) (fn:=Tryz.f165) (by kernel_rfl) (c:=bodyOf Tryz.f165) (by kernel_rfl) (by decide) (ctxOK mixed tbl_ok rfl trivial trivial) (SumOK.of trivial) (by kernel_rfl) Zir Zmq rfl (by decide) (by decide) rfl (by decide) rfl Zl (fun x=>by kernel_rfl)
theorem Zn:Sound Tryz.prog 165 (Spec.shpR Zir Zmq Zl) :=
 Sound.shpR (fun x y h=>by have h:=Option.some.inj h; subst h; rfl) Zm
abbrev Ziq:Shape:={ sl:=sl_15,bl:=bl_12,ts:=[y42],pin:=0 }
abbrev Zmp:Shape:={ sl:=sl_1,bl:=bl_12,ts:=[.bool,y42],pin:=1 }
def Zi (x:(T46)):Option (Bool × T46) :=
 some ((x.1.2.2.1.2.2.2 == x.1.2.2.1.1),x)
abbrev Zqo:=Spec.shp Ziq Zmp Zi
def Zax:Ctx:={ tb:=mkTb T2.tbl,fx:=[],sum:=[],nt:=16,pin:=1,nr:=true,ys:=[] }
theorem Zj:Sound Tryz.prog 166 (Zqo) :=
 Sound.shp (C:=Zax) (fn:=Tryz.f166) (by kernel_rfl) (c:=bodyOf Tryz.f166) (by kernel_rfl) (by decide) (ctxOK mixed tbl_ok rfl trivial trivial) (SumOK.of trivial) (by kernel_rfl) Ziq Zmp rfl (by decide) (by decide) rfl (by decide) rfl Zi (fun x=>by kernel_rfl)
theorem Zk:Sound Tryz.prog 166 (Spec.shpR Ziq Zmp Zi) :=
 Sound.shpR (fun x y h=>by have h:=Option.some.inj h; subst h; rfl) Zj
abbrev Zma:Shape:={ sl:=[(0,(.hole y5)),(1,(.ptr 0 []))],bl:=bl_3,ts:=[y5,(.int .i64)],pin:=0 }
abbrev Zq9:Shape:={ sl:=sl_1,bl:=bl_3,ts:=[.bool,(.int .i64)],pin:=1 }
def Z7p (x:(T7 × Int)):Option T0 :=
 some ((x.1.1 != x.2),x.2)
abbrev Zu7:=Spec.shp Zma Zq9 Z7p
def Zfq:Ctx:={ tb:=mkTb T2.tbl,fx:=[],sum:=[],nt:=8,pin:=1,nr:=true,ys:=[] }
theorem Z7q:Sound Tryz.prog 233 (Zu7) :=
 Sound.shp (C:=Zfq) (fn:=Tryz.f233) (by kernel_rfl) (c:=bodyOf Tryz.f233) (by kernel_rfl) (by decide) (ctxOK mixed tbl_ok rfl trivial trivial) (SumOK.of trivial) (by kernel_rfl) Zma Zq9 rfl (by decide) (by decide) rfl (by decide) rfl Z7p (fun x=>by kernel_rfl)
theorem Z7r:Sound Tryz.prog 233 (Spec.shpR Zma Zq9 Z7p) :=
 Sound.shpR (fun x y h=>by have h:=Option.some.inj h; subst h; rfl) Z7q
abbrev Zic:Shape:={ sl:=[(0,(.hole (.slice y5))),(1,(.fn 233 .nil (.cons (.ptr 0 []) .nil))),(7,(.hole (.int .i64))),(8,(.hole (.int .i64)))],bl:=bl_3,ts:=[(.slice y5),(.int .i64),(.int .i64),(.int .i64)],pin:=1 }
abbrev Zh2:List (ETag × Shape):=[(.ret,{ sl:=sl_3,bl:=bl_3,ts:=ts_5,pin:=1 }),(.exit 0,{ sl:=[],bl:=bl_3,ts:=ts_2,pin:=1 })]
def Zad (x:(List (T7) × Int × Int × Int)):Option ((List (T7) × Int × Int × Int) ⊕ ((Int × Int) ⊕ (Int))) :=
 bif (decide (x.2.2.1 < x.2.1)) then
 bif (inb x.2.2.1 (List.length x.1)) then
 (Z7p ((getAt ((0:Int),(0:Int),(0:Int)) x.1 (toN x.2.2.1)),x.2.2.2)).bind fun r18 =>
 bif r18.1 then
 some (.inr (.inl (x.2.2.1,x.2.2.2)))
 else
 some (.inl (x.1,x.2.1,(IntKind.wrap .i64 (x.2.2.1+(1:Int))),x.2.2.2))
 else
 none
 else
 some (.inr (.inr x.2.2.2))
def Zfg:Ctx:={ tb:=mkTb T2.tbl,fx:=[(233,[],Spec.shpR Zma Zq9 Z7p)],sum:=[],nt:=19,pin:=1,nr:=true,ys:=[] }
theorem Zae:CSound Tryz.prog ⟨19,1,true⟩ (.loop (loopOf 3 Tryz.f163)) (Yav Zic Zh2 (loop Zad)) :=
 Y8e (C:=Zfg) (ctxOK mixed tbl_ok rfl ⟨Z7r,trivial⟩ trivial) (SumOK.of trivial) Zic Zh2 rfl rfl Zad (fun x=>by kernel_rfl)
abbrev Zm3:Shape:={ sl:=[(0,(.hole (.slice y5))),(1,(.fn 233 .nil (.cons (.ptr 0 []) .nil)))],bl:=bl_3,ts:=ts_12,pin:=0 }
abbrev Zq2:Shape:={ sl:=sl_2,bl:=bl_3,ts:=ts_5,pin:=1 }
def Z7b (x:T15):Option (Int × Int) :=
 (loop Zad (x.1,(((List.length x.1):Nat):Int),(0:Int),x.2)).bind fun r17 =>
 match r17 with
 | .inl y18 =>
 some (y18.1,y18.2)
 | .inr y18 =>
 some ((Int.negSucc 0),y18)
abbrev Zu0:=Spec.shp Zm3 Zq2 Z7b
def Zff:Ctx:={ tb:=mkTb T2.tbl,fx:=[(233,[],Spec.shpR Zma Zq9 Z7p)],sum:=[(0,3,Yav Zic Zh2 (loop Zad))],nt:=19,pin:=1,nr:=true,ys:=[] }
theorem Z7c:Sound Tryz.prog 163 (Zu0) :=
 Sound.shp (C:=Zff) (fn:=Tryz.f163) (by kernel_rfl) (c:=bodyOf Tryz.f163) (by kernel_rfl) (by decide) (ctxOK mixed tbl_ok rfl ⟨Z7r,trivial⟩ trivial) (SumOK.of ⟨(Yax (d:=.loop (loopOf 3 Tryz.f163)) (by kernel_rfl) Zae),trivial⟩) (by kernel_rfl) Zm3 Zq2 rfl (by decide) (by decide) rfl (by decide) rfl Z7b (fun x=>by kernel_rfl)
abbrev Zm9:Shape:={ sl:=sl_23,bl:=[],ts:=ts_12,pin:=0 }
abbrev Zq8:Shape:={ sl:=[(0,(.hole y5)),(1,(.hole (.int .i64)))],bl:=[],ts:=[y5,(.int .i64)],pin:=0 }
def Z7o (x:T15):Option (T7 × Int) :=
 (Z7v x.1).bind fun r15 =>
 bif (Bool.not r15) then
 some (((0:Int),(0:Int),(0:Int)),(1:Int))
 else
 bif (decide (x.2 < (0:Int))) then
 some (((0:Int),(0:Int),(0:Int)),(1:Int))
 else
 (Z7b (x.1,x.2)).bind fun r16 =>
 bif (decide (r16.1 < (0:Int))) then
 some (((0:Int),(0:Int),(0:Int)),(4:Int))
 else
 bif (inb r16.1 (List.length x.1)) then
 some ((getAt ((0:Int),(0:Int),(0:Int)) x.1 (toN r16.1)),(0:Int))
 else
 none
abbrev Zu6:=Spec.shp Zm9 Zq8 Z7o
def Zfp:Ctx:={ tb:=mkTb T2.tbl,fx:=[(161,[],Zu9),(163,[233],Zu0)],sum:=[],nt:=25,pin:=0,nr:=true,ys:=[] }
theorem Z7s:Sound Tryz.prog 204 (Zu6) :=
 Sound.shp (C:=Zfp) (fn:=Tryz.f204) (by kernel_rfl) (c:=bodyOf Tryz.f204) (by kernel_rfl) (by decide) (ctxOK mixed tbl_ok rfl ⟨Z7y,Z7c,trivial⟩ trivial) (SumOK.of trivial) (by kernel_rfl) Zm9 Zq8 rfl (by decide) (by decide) rfl (by decide) rfl Z7o (fun x=>by kernel_rfl)
abbrev Zit:Shape:={ sl:=[(0,(.ptr 0 [])),(1,(.hole (.slice y5)))],bl:=bl_12,ts:=[(.slice y5),y42],pin:=0 }
abbrev Zms:Shape:={ sl:=sl_17,bl:=bl_12,ts:=[y5,y42],pin:=1 }
def Zq (x:(List (T7) × T46)):Option (T7 × T46) :=
 (Z7o (x.1,x.2.2)).bind fun r14 =>
 bif (r14.2 != (0:Int)) then
 bif ((r14.1.1 == ((0:Int),(0:Int),(0:Int)).1) && ((r14.1.2.1 == ((0:Int),(0:Int),(0:Int)).2.1) && (r14.1.2.2 == ((0:Int),(0:Int),(0:Int)).2.2))) then
 some (((Int.negSucc 0),(0:Int),(0:Int)),x.2)
 else
 some (r14.1,x.2)
 else
 some (r14.1,x.2)
abbrev Zqr:=Spec.shp Zit Zms Zq
def Zb0:Ctx:={ tb:=mkTb T2.tbl,fx:=[(204,[],Zu6)],sum:=[],nt:=27,pin:=1,nr:=true,ys:=[] }
theorem Zr:Sound Tryz.prog 167 (Zqr) :=
 Sound.shp (C:=Zb0) (fn:=Tryz.f167) (by kernel_rfl) (c:=bodyOf Tryz.f167) (by kernel_rfl) (by decide) (ctxOK mixed tbl_ok rfl ⟨Z7s,trivial⟩ trivial) (SumOK.of trivial) (by kernel_rfl) Zit Zms rfl (by decide) (by decide) rfl (by decide) rfl Zq (fun x=>by kernel_rfl)
abbrev Zik:Shape:={ sl:=[(0,(.hole y40)),(1,(.hole .bool)),(2,(.hole (.int .i64)))],bl:=[],ts:=[y40,.bool,(.int .i64)],pin:=0 }
abbrev Zmj:Shape:={ sl:=[(0,(.hole .bool)),(1,(.hole (.int .i64)))],bl:=[],ts:=[.bool,(.int .i64)],pin:=0 }
def Z6 (x:((Int × T40) × Bool × Int)):Option T0 :=
 (Za x.1).bind fun r10 =>
 bif (Bool.not r10) then
 some (false,(1:Int))
 else
 bif (decide (x.2.2 < (0:Int))) then
 some (false,(1:Int))
 else
 (Zl (x.1,x.2.2)).bind fun r11 =>
 bif r11.1 then
 some (false,(0:Int))
 else
 bif x.1.2.1 then
 some (true,(0:Int))
 else
 bif x.2.1 then
 (Zi (x.1,x.2.2)).bind fun r12 =>
 bif (Bool.not r12.1) then
 some (true,(0:Int))
 else
 (Zq (x.1.2.2.2.2.2.2,x.1,x.2.2)).bind fun r13 =>
 some ((r13.1.1 != (Int.negSucc 0)),(0:Int))
 else
 bif (decide (x.1.2.2.1.2.2.2 > (0:Int))) then
 some (true,(0:Int))
 else
 (Zq (x.1.2.2.2.2.2.1,x.1,x.2.2)).bind fun r12 =>
 some ((r12.1.1 != (Int.negSucc 0)),(0:Int))
abbrev Zqi:=Spec.shp Zik Zmj Z6
def Zaq:Ctx:={ tb:=mkTb T2.tbl,fx:=[(112,[],Zqk),(165,[],Spec.shpR Zir Zmq Zl),(166,[],Spec.shpR Ziq Zmp Zi),(167,[],Zqr)],sum:=[],nt:=63,pin:=0,nr:=true,ys:=[] }
theorem Z7:Sound Tryz.prog 119 (Zqi) :=
 Sound.shp (C:=Zaq) (fn:=Tryz.f119) (by kernel_rfl) (c:=bodyOf Tryz.f119) (by kernel_rfl) (by decide) (ctxOK mixed tbl_ok rfl ⟨Zb,Zn,Zk,Zr,trivial⟩ trivial) (SumOK.of trivial) (by kernel_rfl) Zik Zmj rfl (by decide) (by decide) rfl (by decide) rfl Z6 (fun x=>by kernel_rfl)
abbrev Zha:Shape:={ sl:=[(1,(.hole (.int .i64))),(2,(.ptr 0 [])),(7,(.sl 1)),(38,(.hole (.slice y2))),(39,(.hole (.int .i64))),(40,(.hole (.int .i64)))],bl:=bl_13,ts:=ts_13,pin:=0 }
abbrev Zg0:List (ETag × Shape):=[(.exit 0,{ sl:=[(7,(.sl 0))],bl:=[.row y4],ts:=[(.slice y4)],pin:=0 })]
def Z89 (x:T68):Option (T68 ⊕ (T6)) :=
 bif (decide (x.2.2.2.1 < x.2.2.1)) then
 bif (inb x.2.2.2.1 (List.length x.2.1)) then
 bif (inb (getAt (false,(0:Int)) x.2.1 (toN x.2.2.2.1)).2 (List.length x.2.2.2.2.1.2.2.1)) then
 (Z6 ((getAt ((0:Int),false,((0:Int),(0:Int),([]:List Int),(0:Int)),(0:Int),(0:Int),([]:List T7),([]:List T7)) x.2.2.2.2.1.2.2.1 (toN (getAt (false,(0:Int)) x.2.1 (toN x.2.2.2.1)).2)),(getAt (false,(0:Int)) x.2.1 (toN x.2.2.2.1)).1,x.1)).bind fun r9 =>
 bif r9.1 then
 bif (fits ((List.length x.2.2.2.2.2)+(List.length ((x.1,x.2.2.2.1) :: ([]:List (Int × Int)))))) then
 some (.inl (x.1,x.2.1,x.2.2.1,(IntKind.wrap .i64 (x.2.2.2.1+(1:Int))),x.2.2.2.2.1,(x.2.2.2.2.2++((x.1,x.2.2.2.1) :: ([]:List (Int × Int))))))
 else
 none
 else
 some (.inl (x.1,x.2.1,x.2.2.1,(IntKind.wrap .i64 (x.2.2.2.1+(1:Int))),x.2.2.2.2.1,x.2.2.2.2.2))
 else
 none
 else
 none
 else
 some (.inr x.2.2.2.2.2)
def Zbg:Ctx:={ tb:=mkTb T2.tbl,fx:=[(119,[],Zqi)],sum:=[],nt:=67,pin:=0,nr:=true,ys:=[] }
theorem Z8a:CSound Tryz.prog ⟨67,0,true⟩ (.loop (loopOf 8 Tryz.f58)) (Yav Zha Zg0 (loop Z89)) :=
 Y8e (C:=Zbg) (ctxOK mixed tbl_ok rfl ⟨Z7,trivial⟩ trivial) (SumOK.of trivial) Zha Zg0 rfl rfl Z89 (fun x=>by kernel_rfl)
abbrev Zj6:Shape:={ sl:=[(0,(.hole y45)),(1,(.hole (.int .i64)))],bl:=[],ts:=[y45,(.int .i64)],pin:=0 }
abbrev Zn5:Shape:={ sl:=[(0,(.hole (.slice y4)))],bl:=[],ts:=[(.slice y4)],pin:=0 }
def Z1g (x:((T47 × T61) × Int)):Option T6 :=
 bif (inb x.2 (List.length x.1.2.1)) then
 bif (inb (getAt ((0:Int),(0:Int),(0:Int),false) x.1.2.1 (toN x.2)).1 (List.length x.1.1.2.2.2.2.2)) then
 bif (inb (getAt ((0:Int),(0:Int),(0:Int),false) x.1.2.1 (toN x.2)).2.1 (List.length (getAt ([]:List T7) x.1.1.2.2.2.2.2 (toN (getAt ((0:Int),(0:Int),(0:Int),false) x.1.2.1 (toN x.2)).1)))) then
 bif ((getAt ((0:Int),(0:Int),(0:Int)) (getAt ([]:List T7) x.1.1.2.2.2.2.2 (toN (getAt ((0:Int),(0:Int),(0:Int),false) x.1.2.1 (toN x.2)).1)) (toN (getAt ((0:Int),(0:Int),(0:Int),false) x.1.2.1 (toN x.2)).2.1)).1 != (4:Int)) then
 some ([]:List (Int × Int))
 else
 bif (inb (getAt ((0:Int),(0:Int),(0:Int)) (getAt ([]:List T7) x.1.1.2.2.2.2.2 (toN (getAt ((0:Int),(0:Int),(0:Int),false) x.1.2.1 (toN x.2)).1)) (toN (getAt ((0:Int),(0:Int),(0:Int),false) x.1.2.1 (toN x.2)).2.1)).2.1 (List.length x.1.1.2.2.2.2.1)) then
 (loop Z89 (x.2,(getAt (([]:List T0),false) x.1.1.2.2.2.2.1 (toN (getAt ((0:Int),(0:Int),(0:Int)) (getAt ([]:List T7) x.1.1.2.2.2.2.2 (toN (getAt ((0:Int),(0:Int),(0:Int),false) x.1.2.1 (toN x.2)).1)) (toN (getAt ((0:Int),(0:Int),(0:Int),false) x.1.2.1 (toN x.2)).2.1)).2.1)).1,(((List.length (getAt (([]:List T0),false) x.1.1.2.2.2.2.1 (toN (getAt ((0:Int),(0:Int),(0:Int)) (getAt ([]:List T7) x.1.1.2.2.2.2.2 (toN (getAt ((0:Int),(0:Int),(0:Int),false) x.1.2.1 (toN x.2)).1)) (toN (getAt ((0:Int),(0:Int),(0:Int),false) x.1.2.1 (toN x.2)).2.1)).2.1)).1):Nat):Int),(0:Int),x.1,([]:List (Int × Int)))).bind fun r8 =>
 some r8
 else
 none
 else
 none
 else
 none
 else
 none
abbrev Zr4:=Spec.shp Zj6 Zn5 Z1g
def Zbf:Ctx:={ tb:=mkTb T2.tbl,fx:=[(119,[],Zqi)],sum:=[(0,8,Yav Zha Zg0 (loop Z89))],nt:=67,pin:=0,nr:=true,ys:=[] }
theorem Z1h:Sound Tryz.prog 58 (Zr4) :=
 Sound.shp (C:=Zbf) (fn:=Tryz.f58) (by kernel_rfl) (c:=bodyOf Tryz.f58) (by kernel_rfl) (by decide) (ctxOK mixed tbl_ok rfl ⟨Z7,trivial⟩ trivial) (SumOK.of ⟨(Yax (d:=.loop (loopOf 8 Tryz.f58)) (by kernel_rfl) Z8a),trivial⟩) (by kernel_rfl) Zj6 Zn5 rfl (by decide) (by decide) rfl (by decide) rfl Z1g (fun x=>by kernel_rfl)
abbrev Zh8:Shape:={ sl:=[(1,(.ptr 0 [])),(3,(.sl 1)),(16,(.hole y18)),(17,(.hole (.int .i64))),(18,(.hole (.int .i64)))],bl:=bl_13,ts:=[y18,(.int .i64),(.int .i64),y45,(.slice y4)],pin:=0 }
abbrev Zfy:List (ETag × Shape):=[(.exit 0,{ sl:=[(3,(.sl 0))],bl:=[.row y4],ts:=[(.slice y4)],pin:=0 })]
def Z85 (x:T67):Option (T67 ⊕ (T6)) :=
 bif (decide (x.2.2.1 < x.2.1)) then
 bif (inb x.2.2.1 (List.length x.1)) then
 bif ((getAt ((0:Int),(0:Int),(0:Int),false) x.1 (toN x.2.2.1)).2.2.1 != (0:Int)) then
 some (.inl (x.1,x.2.1,(IntKind.wrap .i64 (x.2.2.1+(1:Int))),x.2.2.2.1,x.2.2.2.2))
 else
 (Z1g (x.2.2.2.1,x.2.2.1)).bind fun r7 =>
 bif ((((List.length r7):Nat):Int) == (0:Int)) then
 bif (fits ((List.length x.2.2.2.2)+(List.length ((x.2.2.1,(Int.negSucc 0)) :: ([]:List (Int × Int)))))) then
 some (.inl (x.1,x.2.1,(IntKind.wrap .i64 (x.2.2.1+(1:Int))),x.2.2.2.1,(x.2.2.2.2++((x.2.2.1,(Int.negSucc 0)) :: ([]:List (Int × Int))))))
 else
 none
 else
 bif (fits ((List.length x.2.2.2.2)+(List.length r7))) then
 some (.inl (x.1,x.2.1,(IntKind.wrap .i64 (x.2.2.1+(1:Int))),x.2.2.2.1,(x.2.2.2.2++r7)))
 else
 none
 else
 none
 else
 some (.inr x.2.2.2.2)
def Zb9:Ctx:={ tb:=mkTb T2.tbl,fx:=[(57,[],Zr5),(58,[],Zr4)],sum:=[],nt:=40,pin:=0,nr:=true,ys:=[] }
theorem Z86:CSound Tryz.prog ⟨40,0,true⟩ (.loop (loopOf 6 Tryz.f22)) (Yav Zh8 Zfy (loop Z85)) :=
 Y8e (C:=Zb9) (ctxOK mixed tbl_ok rfl ⟨Z1t,Z1h,trivial⟩ trivial) (SumOK.of trivial) Zh8 Zfy rfl rfl Z85 (fun x=>by kernel_rfl)
abbrev Zj1:Shape:={ sl:=[(0,(.hole y45))],bl:=[],ts:=[y45],pin:=0 }
abbrev Zn0:Shape:={ sl:=[(0,(.hole (.slice y4)))],bl:=[],ts:=[(.slice y4)],pin:=0 }
def Z16 (x:T62):Option T6 :=
 (Z1i x).bind fun r5 =>
 bif (Bool.not r5) then
 some ([]:List (Int × Int))
 else
 bif (x.2.2.2.2.2.2 != (0:Int)) then
 some ([]:List (Int × Int))
 else
 (loop Z85 (x.2.1,(((List.length x.2.1):Nat):Int),(0:Int),x,([]:List (Int × Int)))).bind fun r6 =>
 some r6
abbrev Zqz:=Spec.shp Zj1 Zn0 Z16
def Zb8:Ctx:={ tb:=mkTb T2.tbl,fx:=[(57,[],Zr5),(58,[],Zr4)],sum:=[(0,6,Yav Zh8 Zfy (loop Z85))],nt:=40,pin:=0,nr:=true,ys:=[] }
theorem Z17:Sound Tryz.prog 22 (Zqz) :=
 Sound.shp (C:=Zb8) (fn:=Tryz.f22) (by kernel_rfl) (c:=bodyOf Tryz.f22) (by kernel_rfl) (by decide) (ctxOK mixed tbl_ok rfl ⟨Z1t,Z1h,trivial⟩ trivial) (SumOK.of ⟨(Yax (d:=.loop (loopOf 6 Tryz.f22)) (by kernel_rfl) Z86),trivial⟩) (by kernel_rfl) Zj1 Zn0 rfl (by decide) (by decide) rfl (by decide) rfl Z16 (fun x=>by kernel_rfl)
abbrev Zif:Shape:={ sl:=[(0,(.hole (.slice y4))),(3,(.ptr 0 [])),(7,(.hole (.int .i64))),(8,(.hole (.int .i64)))],bl:=[.var (.hole y4)],ts:=[(.slice y4),(.int .i64),(.int .i64),y4],pin:=0 }
abbrev Zh5:List (ETag × Shape):=[(.ret,{ sl:=sl_3,bl:=[],ts:=ts_2,pin:=0 }),(.exit 0,{ sl:=[],bl:=[],ts:=[],pin:=0 })]
def Zaj (x:T11):Option (T11 ⊕ ((Int) ⊕ Unit)) :=
 bif (decide (x.2.2.1 < x.2.1)) then
 bif (inb x.2.2.1 (List.length x.1)) then
 bif ((x.2.2.2.1 == (getAt ((0:Int),(0:Int)) x.1 (toN x.2.2.1)).1) && (x.2.2.2.2 == (getAt ((0:Int),(0:Int)) x.1 (toN x.2.2.1)).2)) then
 some (.inr (.inl x.2.2.1))
 else
 some (.inl (x.1,x.2.1,(IntKind.wrap .i64 (x.2.2.1+(1:Int))),x.2.2.2))
 else
 none
 else
 some (.inr (.inr ()))
def Zfm:Ctx:={ tb:=mkTb T2.tbl,fx:=[],sum:=[],nt:=19,pin:=0,nr:=true,ys:=[] }
theorem Zak:CSound Tryz.prog ⟨19,0,true⟩ (.loop (loopOf 3 Tryz.f84)) (Yav Zif Zh5 (loop Zaj)) :=
 Y8e (C:=Zfm) (ctxOK mixed tbl_ok rfl trivial trivial) (SumOK.of trivial) Zif Zh5 rfl rfl Zaj (fun x=>by kernel_rfl)
abbrev Zm6:Shape:={ sl:=sl_24,bl:=[],ts:=[(.slice y4),y4],pin:=0 }
abbrev Zq5:Shape:={ sl:=sl_2,bl:=[],ts:=ts_2,pin:=0 }
def Z7h (x:(List (Int × Int) × (Int × Int))):Option (Int) :=
 (loop Zaj (x.1,(((List.length x.1):Nat):Int),(0:Int),x.2)).bind fun r9 =>
 match r9 with
 | .inl y10 =>
 some y10
 | .inr y10 =>
 some (Int.negSucc 0)
abbrev Zu3:=Spec.shp Zm6 Zq5 Z7h
def Zfl:Ctx:={ tb:=mkTb T2.tbl,fx:=[],sum:=[(0,3,Yav Zif Zh5 (loop Zaj))],nt:=19,pin:=0,nr:=true,ys:=[] }
theorem Z7i:Sound Tryz.prog 84 (Zu3) :=
 Sound.shp (C:=Zfl) (fn:=Tryz.f84) (by kernel_rfl) (c:=bodyOf Tryz.f84) (by kernel_rfl) (by decide) (ctxOK mixed tbl_ok rfl trivial trivial) (SumOK.of ⟨(Yax (d:=.loop (loopOf 3 Tryz.f84)) (by kernel_rfl) Zak),trivial⟩) (by kernel_rfl) Zm6 Zq5 rfl (by decide) (by decide) rfl (by decide) rfl Z7h (fun x=>by kernel_rfl)
abbrev Zlv:Shape:={ sl:=sl_24,bl:=[],ts:=[(.slice y4),y4],pin:=0 }
abbrev Zpu:Shape:={ sl:=sl_1,bl:=[],ts:=ts_1,pin:=0 }
def Z6v (x:(List (Int × Int) × (Int × Int))):Option (Bool) :=
 (Z7h (x.1,x.2)).bind fun r8 =>
 some (decide (r8 ≥ (0:Int)))
abbrev Zts:=Spec.shp Zlv Zpu Z6v
def Zf0:Ctx:={ tb:=mkTb T2.tbl,fx:=[(84,[],Zu3)],sum:=[],nt:=9,pin:=0,nr:=true,ys:=[] }
theorem Z6w:Sound Tryz.prog 59 (Zts) :=
 Sound.shp (C:=Zf0) (fn:=Tryz.f59) (by kernel_rfl) (c:=bodyOf Tryz.f59) (by kernel_rfl) (by decide) (ctxOK mixed tbl_ok rfl ⟨Z7i,trivial⟩ trivial) (SumOK.of trivial) (by kernel_rfl) Zlv Zpu rfl (by decide) (by decide) rfl (by decide) rfl Z6v (fun x=>by kernel_rfl)
abbrev Zlj:Shape:={ sl:=[(0,(.hole y18))],bl:=[],ts:=[y18],pin:=0 }
abbrev Zpi:Shape:={ sl:=[(0,(.sl 0))],bl:=[.row y12],ts:=[y18],pin:=0 }
def Z67 (x:(List (T17))):Option (List (T17)) :=
 bif (@Nat.beq (List.length x) (0:Nat)) then
 amb (
 some ([]:List T17)) (
 bif (fits ((List.length ([]:List T17))+(List.length x))) then
 some (([]:List T17)++x)
 else
 none)
 else
 bif (fits ((List.length ([]:List T17))+(List.length x))) then
 some (([]:List T17)++x)
 else
 none
abbrev Ztg:=Spec.shp Zlj Zpi Z67
def Zeo:Ctx:={ tb:=mkTb T2.tbl,fx:=[],sum:=[],nt:=8,pin:=0,nr:=true,ys:=[] }
theorem Z68:Sound Tryz.prog 60 (Ztg) :=
 Sound.shp (C:=Zeo) (fn:=Tryz.f60) (by kernel_rfl) (c:=bodyOf Tryz.f60) (by kernel_rfl) (by decide) (ctxOK mixed tbl_ok rfl trivial trivial) (SumOK.of trivial) (by kernel_rfl) Zlj Zpi rfl (by decide) (by decide) rfl (by decide) rfl Z67 (fun x=>by kernel_rfl)
abbrev Zli:Shape:={ sl:=[(0,(.hole y41))],bl:=[],ts:=[y41],pin:=0 }
abbrev Zph:Shape:={ sl:=[(0,(.sl 0))],bl:=[.row y40],ts:=[y41],pin:=0 }
def Z65 (x:(List T43)):Option (List T43) :=
 bif (@Nat.beq (List.length x) (0:Nat)) then
 amb (
 some ([]:List (Int × T41))) (
 bif (fits ((List.length ([]:List (Int × T41)))+(List.length x))) then
 some (([]:List (Int × T41))++x)
 else
 none)
 else
 bif (fits ((List.length ([]:List (Int × T41)))+(List.length x))) then
 some (([]:List (Int × T41))++x)
 else
 none
abbrev Ztf:=Spec.shp Zli Zph Z65
def Zen:Ctx:={ tb:=mkTb T2.tbl,fx:=[],sum:=[],nt:=8,pin:=0,nr:=true,ys:=[] }
theorem Z66:Sound Tryz.prog 61 (Ztf) :=
 Sound.shp (C:=Zen) (fn:=Tryz.f61) (by kernel_rfl) (c:=bodyOf Tryz.f61) (by kernel_rfl) (by decide) (ctxOK mixed tbl_ok rfl trivial trivial) (SumOK.of trivial) (by kernel_rfl) Zli Zph rfl (by decide) (by decide) rfl (by decide) rfl Z65 (fun x=>by kernel_rfl)
abbrev Zlk:Shape:={ sl:=[(0,(.hole y19))],bl:=[],ts:=[y19],pin:=0 }
abbrev Zpj:Shape:={ sl:=[(0,(.sl 0))],bl:=[.row y15],ts:=[y19],pin:=0 }
def Z69 (x:(List (T18))):Option (List (T18)) :=
 bif (@Nat.beq (List.length x) (0:Nat)) then
 amb (
 some ([]:List T22)) (
 bif (fits ((List.length ([]:List T22))+(List.length x))) then
 some (([]:List T22)++x)
 else
 none)
 else
 bif (fits ((List.length ([]:List T22))+(List.length x))) then
 some (([]:List T22)++x)
 else
 none
abbrev Zth:=Spec.shp Zlk Zpj Z69
def Zep:Ctx:={ tb:=mkTb T2.tbl,fx:=[],sum:=[],nt:=8,pin:=0,nr:=true,ys:=[] }
theorem Z6a:Sound Tryz.prog 62 (Zth) :=
 Sound.shp (C:=Zep) (fn:=Tryz.f62) (by kernel_rfl) (c:=bodyOf Tryz.f62) (by kernel_rfl) (by decide) (ctxOK mixed tbl_ok rfl trivial trivial) (SumOK.of trivial) (by kernel_rfl) Zlk Zpj rfl (by decide) (by decide) rfl (by decide) rfl Z69 (fun x=>by kernel_rfl)
abbrev Zll:Shape:={ sl:=[(0,(.hole y26))],bl:=[],ts:=[y26],pin:=0 }
abbrev Zpk:Shape:={ sl:=[(0,(.sl 0))],bl:=[.row y23],ts:=[y26],pin:=0 }
def Z6b (x:(List T29)):Option (List T29) :=
 bif (@Nat.beq (List.length x) (0:Nat)) then
 amb (
 some ([]:List (Int × T14))) (
 bif (fits ((List.length ([]:List (Int × T14)))+(List.length x))) then
 some (([]:List (Int × T14))++x)
 else
 none)
 else
 bif (fits ((List.length ([]:List (Int × T14)))+(List.length x))) then
 some (([]:List (Int × T14))++x)
 else
 none
abbrev Zti:=Spec.shp Zll Zpk Z6b
def Zeq:Ctx:={ tb:=mkTb T2.tbl,fx:=[],sum:=[],nt:=8,pin:=0,nr:=true,ys:=[] }
theorem Z6c:Sound Tryz.prog 63 (Zti) :=
 Sound.shp (C:=Zeq) (fn:=Tryz.f63) (by kernel_rfl) (c:=bodyOf Tryz.f63) (by kernel_rfl) (by decide) (ctxOK mixed tbl_ok rfl trivial trivial) (SumOK.of trivial) (by kernel_rfl) Zll Zpk rfl (by decide) (by decide) rfl (by decide) rfl Z6b (fun x=>by kernel_rfl)
abbrev Zjj:Shape:={ sl:=sl_25,bl:=bl_2,ts:=ts_10,pin:=0 }
abbrev Zni:Shape:={ sl:=sl_17,bl:=bl_2,ts:=[y5,y39,y4,y18,y41,y19,y26,y27],pin:=1 }
def Z26 (x:T58):Option (T7 × T47 × (Int × Int) × List (T17) × List T43 × List (T18) × List T29 × List (T20)) :=
 bif (inb x.1 (List.length x.2.2.2.1)) then
 bif (inb (getAt ((0:Int),(0:Int),(0:Int),false) x.2.2.2.1 (toN x.1)).1 (List.length x.2.1.2.2.2.2.2)) then
 bif (inb (getAt ((0:Int),(0:Int),(0:Int),false) x.2.2.2.1 (toN x.1)).2.1 (List.length (getAt ([]:List T7) x.2.1.2.2.2.2.2 (toN (getAt ((0:Int),(0:Int),(0:Int),false) x.2.2.2.1 (toN x.1)).1)))) then
 some ((getAt ((0:Int),(0:Int),(0:Int)) (getAt ([]:List T7) x.2.1.2.2.2.2.2 (toN (getAt ((0:Int),(0:Int),(0:Int),false) x.2.2.2.1 (toN x.1)).1)) (toN (getAt ((0:Int),(0:Int),(0:Int),false) x.2.2.2.1 (toN x.1)).2.1)),x.2.1,x.2.2.1,x.2.2.2.1,x.2.2.2.2.1,x.2.2.2.2.2.1,x.2.2.2.2.2.2.1,x.2.2.2.2.2.2.2)
 else
 none
 else
 none
 else
 none
abbrev Zrh:=Spec.shp Zjj Zni Z26
def Zby:Ctx:={ tb:=mkTb T2.tbl,fx:=[],sum:=[],nt:=28,pin:=1,nr:=true,ys:=[] }
theorem Z27:Sound Tryz.prog 78 (Zrh) :=
 Sound.shp (C:=Zby) (fn:=Tryz.f78) (by kernel_rfl) (c:=bodyOf Tryz.f78) (by kernel_rfl) (by decide) (ctxOK mixed tbl_ok rfl trivial trivial) (SumOK.of trivial) (by kernel_rfl) Zjj Zni rfl (by decide) (by decide) rfl (by decide) rfl Z26 (fun x=>by kernel_rfl)
abbrev Zjh:Shape:={ sl:=sl_25,bl:=bl_2,ts:=ts_10,pin:=0 }
abbrev Zng:Shape:={ sl:=[],bl:=bl_2,ts:=ts_11,pin:=1 }
def Z22 (x:T58):Option T57 :=
 bif (inb x.1 (List.length x.2.2.2.1)) then
 (Z24 (x.1,(IntKind.wrap .i64 ((getAt ((0:Int),(0:Int),(0:Int),false) x.2.2.2.1 (toN x.1)).2.1+(1:Int))),x.2.1,x.2.2.1,x.2.2.2.1,x.2.2.2.2.1,x.2.2.2.2.2.1,x.2.2.2.2.2.2.1,x.2.2.2.2.2.2.2)).bind fun r15 =>
 some (r15.1,r15.2.1,r15.2.2.1,r15.2.2.2.1,r15.2.2.2.2.1,r15.2.2.2.2.2.1,r15.2.2.2.2.2.2)
 else
 none
abbrev Zrf:=Spec.shp Zjh Zng Z22
def Zbw:Ctx:={ tb:=mkTb T2.tbl,fx:=[(41,[],Zrg)],sum:=[],nt:=17,pin:=1,nr:=true,ys:=[] }
theorem Z23:Sound Tryz.prog 120 (Zrf) :=
 Sound.shp (C:=Zbw) (fn:=Tryz.f120) (by kernel_rfl) (c:=bodyOf Tryz.f120) (by kernel_rfl) (by decide) (ctxOK mixed tbl_ok rfl ⟨Z25,trivial⟩ trivial) (SumOK.of trivial) (by kernel_rfl) Zjh Zng rfl (by decide) (by decide) rfl (by decide) rfl Z22 (fun x=>by kernel_rfl)
abbrev Zjn:Shape:={ sl:=sl_26,bl:=bl_2,ts:=ts_14,pin:=0 }
abbrev Znm:Shape:={ sl:=[],bl:=bl_2,ts:=ts_11,pin:=1 }
def Z2e (x:T60):Option T57 :=
 (Z22 (x.1.1,x.2.2.1,x.2.2.2.1,x.2.2.2.2.1,x.2.2.2.2.2.1,x.2.2.2.2.2.2.1,x.2.2.2.2.2.2.2.1,x.2.2.2.2.2.2.2.2)).bind fun r14 =>
 some (r14.1,r14.2.1,r14.2.2.1,r14.2.2.2.1,r14.2.2.2.2.1,r14.2.2.2.2.2.1,r14.2.2.2.2.2.2)
abbrev Zrl:=Spec.shp Zjn Znm Z2e
def Zc2:Ctx:={ tb:=mkTb T2.tbl,fx:=[(120,[],Zrf)],sum:=[],nt:=10,pin:=1,nr:=true,ys:=[] }
theorem Z2f:Sound Tryz.prog 64 (Zrl) :=
 Sound.shp (C:=Zc2) (fn:=Tryz.f64) (by kernel_rfl) (c:=bodyOf Tryz.f64) (by kernel_rfl) (by decide) (ctxOK mixed tbl_ok rfl ⟨Z23,trivial⟩ trivial) (SumOK.of trivial) (by kernel_rfl) Zjn Znm rfl (by decide) (by decide) rfl (by decide) rfl Z2e (fun x=>by kernel_rfl)
abbrev Zio:Shape:={ sl:=sl_17,bl:=[],ts:=[y5],pin:=0 }
abbrev Zmn:Shape:={ sl:=sl_1,bl:=[],ts:=ts_1,pin:=0 }
def Ze (x:(T7)):Option (Bool) :=
 bif (decide (x.1 ≥ (0:Int))) then
 bif (decide (x.2.1 ≥ (0:Int))) then
 some (decide (x.2.2 ≥ (0:Int)))
 else
 some false
 else
 some false
abbrev Zqm:=Spec.shp Zio Zmn Ze
def Zau:Ctx:={ tb:=mkTb T2.tbl,fx:=[],sum:=[],nt:=16,pin:=0,nr:=true,ys:=[] }
theorem Zf:Sound Tryz.prog 206 (Zqm) :=
 Sound.shp (C:=Zau) (fn:=Tryz.f206) (by kernel_rfl) (c:=bodyOf Tryz.f206) (by kernel_rfl) (by decide) (ctxOK mixed tbl_ok rfl trivial trivial) (SumOK.of trivial) (by kernel_rfl) Zio Zmn rfl (by decide) (by decide) rfl (by decide) rfl Ze (fun x=>by kernel_rfl)
abbrev Zis:Shape:={ sl:=sl_25,bl:=bl_12,ts:=[(.int .i64),y42],pin:=0 }
abbrev Zmr:Shape:={ sl:=[],bl:=bl_12,ts:=[y42],pin:=1 }
def Zo (x:(Int × T46)):Option (T46) :=
 (Z7j (x.2.1.2.2.2.2.2.1,x.1)).bind fun r23 =>
 (Z7j (x.2.1.2.2.2.2.2.2,x.1)).bind fun r24 =>
 some ((x.2.1.1,x.2.1.2.1,x.2.1.2.2.1,x.2.1.2.2.2.1,x.2.1.2.2.2.2.1,r23.1,r24.1),x.2.2)
abbrev Zqq:=Spec.shp Zis Zmr Zo
def Zaz:Ctx:={ tb:=mkTb T2.tbl,fx:=[(164,[],Zu4)],sum:=[],nt:=32,pin:=1,nr:=true,ys:=[] }
theorem Zp:Sound Tryz.prog 205 (Zqq) :=
 Sound.shp (C:=Zaz) (fn:=Tryz.f205) (by kernel_rfl) (c:=bodyOf Tryz.f205) (by kernel_rfl) (by decide) (ctxOK mixed tbl_ok rfl ⟨Z7n,trivial⟩ trivial) (SumOK.of trivial) (by kernel_rfl) Zis Zmr rfl (by decide) (by decide) rfl (by decide) rfl Zo (fun x=>by kernel_rfl)
abbrev Ziu:Shape:={ sl:=sl_15,bl:=bl_12,ts:=[y42],pin:=0 }
abbrev Zmt:Shape:={ sl:=sl_2,bl:=bl_12,ts:=[(.int .i64),y42],pin:=1 }
def Zs (x:(T46)):Option (Int × T46) :=
 some (x.1.2.2.2.1,(x.1.1,x.1.2.1,x.1.2.2.1,(IntKind.wrap .i64 (x.1.2.2.2.1+(1:Int))),(IntKind.wrap .i64 (x.1.2.2.2.2.1+(1:Int))),x.1.2.2.2.2.2),x.2)
abbrev Zqs:=Spec.shp Ziu Zmt Zs
def Zb1:Ctx:={ tb:=mkTb T2.tbl,fx:=[],sum:=[],nt:=28,pin:=1,nr:=true,ys:=[] }
theorem Zt:Sound Tryz.prog 209 (Zqs) :=
 Sound.shp (C:=Zb1) (fn:=Tryz.f209) (by kernel_rfl) (c:=bodyOf Tryz.f209) (by kernel_rfl) (by decide) (ctxOK mixed tbl_ok rfl trivial trivial) (SumOK.of trivial) (by kernel_rfl) Ziu Zmt rfl (by decide) (by decide) rfl (by decide) rfl Zs (fun x=>by kernel_rfl)
abbrev Zln:Shape:={ sl:=[(0,(.hole y0))],bl:=[],ts:=[y0],pin:=0 }
abbrev Zpm:Shape:={ sl:=[(0,(.sl 0))],bl:=bl_14,ts:=[y0],pin:=0 }
def Z6f (x:(List Int)):Option (List Int) :=
 bif (@Nat.beq (List.length x) (0:Nat)) then
 amb (
 some ([]:List Int)) (
 bif (fits ((List.length ([]:List Int))+(List.length x))) then
 some (([]:List Int)++x)
 else
 none)
 else
 bif (fits ((List.length ([]:List Int))+(List.length x))) then
 some (([]:List Int)++x)
 else
 none
abbrev Ztk:=Spec.shp Zln Zpm Z6f
def Zes:Ctx:={ tb:=mkTb T2.tbl,fx:=[],sum:=[],nt:=8,pin:=0,nr:=true,ys:=[] }
theorem Z6g:Sound Tryz.prog 238 (Ztk) :=
 Sound.shp (C:=Zes) (fn:=Tryz.f238) (by kernel_rfl) (c:=bodyOf Tryz.f238) (by kernel_rfl) (by decide) (ctxOK mixed tbl_ok rfl trivial trivial) (SumOK.of trivial) (by kernel_rfl) Zln Zpm rfl (by decide) (by decide) rfl (by decide) rfl Z6f (fun x=>by kernel_rfl)
abbrev Zlh:Shape:={ sl:=[(0,(.one (.pr (.hole (.int .i64)) (.pr (.hole (.int .i64)) (.pr (.sl 0) (.hole (.int .i64))))))),(1,(.hole (.int .i64)))],bl:=bl_14,ts:=[(.int .i64),(.int .i64),(.int .i64),(.int .i64),y0],pin:=0 }
abbrev Zpg:Shape:={ sl:=sl_2,bl:=bl_14,ts:=[(.int .i64),y0],pin:=1 }
def Z62 (x:(Int × Int × Int × Int × List Int)):Option T3 :=
 bif (x.1 != (0:Int)) then
 some ((Int.tmod (IntKind.wrap .i64 (x.2.1+x.2.2.2.1)) x.1),x.2.2.2.2)
 else
 none
abbrev Zte:=Spec.shp Zlh Zpg Z62
def Zem:Ctx:={ tb:=mkTb T2.tbl,fx:=[],sum:=[],nt:=14,pin:=1,nr:=true,ys:=[] }
theorem Z63:Sound Tryz.prog 232 (Zte) :=
 Sound.shp (C:=Zem) (fn:=Tryz.f232) (by kernel_rfl) (c:=bodyOf Tryz.f232) (by kernel_rfl) (by decide) (ctxOK mixed tbl_ok rfl trivial trivial) (SumOK.of trivial) (by kernel_rfl) Zlh Zpg rfl (by decide) (by decide) rfl (by decide) rfl Z62 (fun x=>by kernel_rfl)
abbrev Zlc:Shape:={ sl:=sl_12,bl:=[],ts:=[y21,(.int .i64)],pin:=0 }
abbrev Zpb:Shape:={ sl:=sl_12,bl:=[],ts:=[y21,(.int .i64)],pin:=0 }
def Z5t (x:(T16 × Int)):Option (T16 × Int) :=
 (Z5v x.1).bind fun r25 =>
 bif (Bool.not r25) then
 some (((0:Int),(0:Int),([]:List Int),(0:Int)),(1:Int))
 else
 bif (x.1.2.2.2 == x.1.1) then
 some (((0:Int),(0:Int),([]:List Int),(0:Int)),(5:Int))
 else
 (Z6f x.1.2.2.1).bind fun r26 =>
 (Z62 (x.1.1,x.1.2.1,x.1.2.2.2,x.1.2.2.2,r26)).bind fun r27 =>
 bif (inb r27.1 (List.length r27.2)) then
 some ((x.1.1,x.1.2.1,(List.set r27.2 (toN r27.1) x.2),(IntKind.wrap .i64 (x.1.2.2.2+(1:Int)))),(0:Int))
 else
 none
abbrev Zt9:=Spec.shp Zlc Zpb Z5t
def Zeg:Ctx:={ tb:=mkTb T2.tbl,fx:=[(196,[],Zta),(238,[],Ztk),(232,[2000000],Zte)],sum:=[],nt:=38,pin:=0,nr:=true,ys:=[] }
theorem Z5u:Sound Tryz.prog 235 (Zt9) :=
 Sound.shp (C:=Zeg) (fn:=Tryz.f235) (by kernel_rfl) (c:=bodyOf Tryz.f235) (by kernel_rfl) (by decide) (ctxOK mixed tbl_ok rfl ⟨Z5w,Z6g,Z63,trivial⟩ trivial) (SumOK.of trivial) (by kernel_rfl) Zlc Zpb rfl (by decide) (by decide) rfl (by decide) rfl Z5t (fun x=>by kernel_rfl)
abbrev Ziw:Shape:={ sl:=sl_15,bl:=bl_12,ts:=[y42],pin:=0 }
abbrev Zmv:Shape:={ sl:=sl_2,bl:=bl_12,ts:=[(.int .i64),y42],pin:=1 }
def Zw (x:(T46)):Option (Int × T46) :=
 (Z5t (x.1.2.2.1,x.1.2.2.2.1)).bind fun r24 =>
 some (x.1.2.2.2.1,(x.1.1,x.1.2.1,r24.1,(IntKind.wrap .i64 (x.1.2.2.2.1+(1:Int))),x.1.2.2.2.2),x.2)
abbrev Zqu:=Spec.shp Ziw Zmv Zw
def Zb3:Ctx:={ tb:=mkTb T2.tbl,fx:=[(235,[],Zt9)],sum:=[],nt:=33,pin:=1,nr:=true,ys:=[] }
theorem Zx:Sound Tryz.prog 208 (Zqu) :=
 Sound.shp (C:=Zb3) (fn:=Tryz.f208) (by kernel_rfl) (c:=bodyOf Tryz.f208) (by kernel_rfl) (by decide) (ctxOK mixed tbl_ok rfl ⟨Z5u,trivial⟩ trivial) (SumOK.of trivial) (by kernel_rfl) Ziw Zmv rfl (by decide) (by decide) rfl (by decide) rfl Zw (fun x=>by kernel_rfl)
abbrev Zmb:Shape:={ sl:=[(0,(.hole (.slice y5))),(1,(.hole y5))],bl:=[],ts:=[(.slice y5),y5],pin:=0 }
abbrev Zqa:Shape:={ sl:=sl_23,bl:=[],ts:=ts_12,pin:=0 }
def Z7t (x:(List (T7) × T7)):Option T15 :=
 (Z7v x.1).bind fun r24 =>
 bif (Bool.not r24) then
 some (([]:List T7),(1:Int))
 else
 (Z7z x.2).bind fun r25 =>
 bif (Bool.not r25) then
 some (([]:List T7),(1:Int))
 else
 (Z81 x.1).bind fun r26 =>
 bif (decide ((@mlook (Int × Int) (Int) (Ty.beq y4) (Ty.zero (.int .i64)) (x.2.1,x.2.2.1) r26) > (0:Int))) then
 some (([]:List T7),(7:Int))
 else
 bif ((((List.length x.1):Nat):Int) == (64:Int)) then
 some (([]:List T7),(5:Int))
 else
 (Z6d x.1).bind fun r27 =>
 bif (fits ((List.length r27)+(List.length (x.2 :: ([]:List T7))))) then
 some ((r27++(x.2 :: ([]:List T7))),(0:Int))
 else
 none
abbrev Zu8:=Spec.shp Zmb Zqa Z7t
def Zfr:Ctx:={ tb:=mkTb T2.tbl,fx:=[(161,[],Zu9),(199,[],Zub),(200,[],Zuc),(202,[],Ztj)],sum:=[],nt:=34,pin:=0,nr:=true,ys:=[] }
theorem Z7u:Sound Tryz.prog 171 (Zu8) :=
 Sound.shp (C:=Zfr) (fn:=Tryz.f171) (by kernel_rfl) (c:=bodyOf Tryz.f171) (by kernel_rfl) (by decide) (ctxOK mixed tbl_ok rfl ⟨Z7y,Z80,Z82,Z6e,trivial⟩ trivial) (SumOK.of trivial) (by kernel_rfl) Zmb Zqa rfl (by decide) (by decide) rfl (by decide) rfl Z7t (fun x=>by kernel_rfl)
end
end Go.Proofs.YthdlpkdojipfhaaGreat.VX.VxM_M

