/- Laid for the law MachineSteps. -/
import Derived.Test.YthdlpkdojipfhaaGreatMachineStepsE15
import Derived.Test.YthdlpkdojipfhaaGreatMachineStepsE16
set_option linter.unusedVariables false
set_option maxRecDepth 100000
namespace Go.Proofs.YthdlpkdojipfhaaGreat.VX.VxM_M
open Go.Proofs Go.Proofs.YthdlpkdojipfhaaGreat.VX.T2
noncomputable section
theorem mixed:Tryz.prog.follows .mixedOrders=true:=by kernel_rfl
abbrev T0:=Bool × Int
abbrev T1:=Int × Bool
abbrev T2:=List Int × Int
abbrev T3:=Int × List Int
abbrev T4:=Int × Int × Int
abbrev T5:=(List Int) × Int
abbrev T6:=List (Int × Int)
abbrev T7:=Int × (Int × Int)
abbrev T8:=(Int × Int) × Int
abbrev T9:=List Int × Int × Int
abbrev T10:=List Int × List Int × Int × Int
abbrev T11:=List (Int × Int) × Int × Int × (Int × Int)
abbrev T12:=List T0 × Bool
abbrev T13:=Int × List (T7)
abbrev T14:=Int × (List T7)
abbrev T15:=List (T7) × Int
abbrev T16:=Int × (Int × T2)
abbrev T17:=Int × (Int × T1)
abbrev T18:=Bool × List (T7)
abbrev T19:=Int × (Int × T5)
abbrev T20:=Int × (Int × T7)
abbrev T21:=(List T0) × Bool
abbrev T22:=Bool × (List T7)
abbrev T23:=Int × (T7 × Int)
abbrev T24:=List (T7) × List (T7)
abbrev T25:=(List T7) × (List T7)
abbrev T26:=List (T7) × List (T7) × Int × Int
abbrev T29:=(Int × T13)
abbrev T30:=(Int × T13) × T7
abbrev T31:=Int × (Int × T24)
abbrev T32:=Int × (Int × T25)
abbrev T33:=Int × T16 × List Int
abbrev T34:=(Int × T13) × Int × Int
abbrev T35:=List (T12) × List (List (T7))
abbrev T39:=Int × (Int × T35)
abbrev T40:=Bool × (T16 × T31)
abbrev T41:=Bool × (T19 × T32)
abbrev T42:=List T29 × (Int × Int)
abbrev T43:=(Int × T40)
abbrev T44:=List (T18) × T42
abbrev T45:=(Int × T40) × T7
abbrev T46:=(Int × T40) × Int
abbrev T47:=List Int × (Int × T39)
abbrev T48:=(Int × T40) × (Int × T23) × Int
abbrev T49:=List T43 × T44
abbrev T50:=T47 × List (T7)
abbrev T52:=Int × Int × T47 × T47
abbrev T53:=List (T12) × Int × Int × T47
abbrev T54:=List (List (T7)) × Int × Int × T47
abbrev T55:=List (T12) × Int × Int × T47 × Int × Int × Int × List (T12)
abbrev T56:=Int × List (T7) × List (List (T7)) × Int × Int × List (T7) × Int × Int × T47
abbrev T57:=T47 × (Int × Int) × List (T17) × List T43 × List (T18) × List T29 × List (T20)
abbrev T58:=Int × T47 × (Int × Int) × List (T17) × List T43 × List (T18) × List T29 × List (T20)
abbrev T59:=List (List (T7)) × Int × Int × T47 × Int × Int × Int × List (T12) × List (List (T7))
abbrev T60:=(Int × Int) × T7 × T47 × (Int × Int) × List (T17) × List T43 × List (T18) × List T29 × List (T20)
abbrev T61:=List (T17) × T49
abbrev T62:=(T47 × T61)
abbrev T63:=(T47 × T61) × List (T20)
abbrev T65:=Int × Int × (T47 × T61) × (T47 × T61)
abbrev T67:=List (T17) × Int × Int × (T47 × T61) × List (Int × Int)
abbrev T68:=Int × List T0 × Int × Int × (T47 × T61) × List (Int × Int)
abbrev T69:=T63 × Int × T7
abbrev y0:Ty:=.slice (.int .i64)
abbrev y1:Ty:=.arr 8 (.int .i64)
abbrev y2:Ty:=.pair .bool (.int .i64)
abbrev y3:Ty:=.pair (.int .i64) .bool
abbrev y4:Ty:=.pair (.int .i64) (.int .i64)
abbrev y5:Ty:=.pair (.int .i64) y4
abbrev y6:Ty:=.pair y0 (.int .i64)
abbrev y7:Ty:=.pair (.int .i64) y3
abbrev y8:Ty:=.pair y4 (.int .i64)
abbrev y9:Ty:=.pair (.slice y2) .bool
abbrev y10:Ty:=.slice (.slice y5)
abbrev y11:Ty:=.pair (.int .i64) y6
abbrev y12:Ty:=.pair (.int .i64) y7
abbrev y13:Ty:=.pair (.int .i64) y5
abbrev y14:Ty:=.pair y5 (.int .i64)
abbrev y15:Ty:=.pair .bool (.slice y5)
abbrev y16:Ty:=.pair (.slice y5) (.slice y5)
abbrev y17:Ty:=.pair (.int .i64) (.slice y5)
abbrev y18:Ty:=.slice y12
abbrev y19:Ty:=.slice y15
abbrev y20:Ty:=.pair (.slice y9) y10
abbrev y21:Ty:=.pair (.int .i64) y11
abbrev y22:Ty:=.pair (.int .i64) y16
abbrev y23:Ty:=.pair (.int .i64) y17
abbrev y24:Ty:=.pair (.int .i64) y13
abbrev y25:Ty:=.pair (.int .i64) y14
abbrev y26:Ty:=.slice y23
abbrev y27:Ty:=.slice y24
abbrev y28:Ty:=.pair (.int .i64) y20
abbrev y29:Ty:=.pair (.int .i64) y22
abbrev y30:Ty:=.pair (.int .i64) y25
abbrev y31:Ty:=.pair y26 y4
abbrev y32:Ty:=.pair y21 y29
abbrev y33:Ty:=.pair (.int .i64) y28
abbrev y35:Ty:=.pair y19 y31
abbrev y36:Ty:=.pair .bool y32
abbrev y37:Ty:=.pair (.int .i64) y33
abbrev y39:Ty:=.pair y0 y37
abbrev y40:Ty:=.pair (.int .i64) y36
abbrev y41:Ty:=.slice y40
abbrev y42:Ty:=.pair y40 (.int .i64)
abbrev y43:Ty:=.pair y41 y35
abbrev y44:Ty:=.pair y18 y43
abbrev y45:Ty:=.pair y39 y44
abbrev y46:Ty:=.pair y45 y27
abbrev bl_0:List BPat:=[.var (.hole y39)]
abbrev bl_1:List BPat:=[.var (.pr (.pr .nl (.pr (.hole (.int .i64)) (.pr (.hole (.int .i64)) (.pr (.hole (.int .i64)) (.pr .nl .nl))))) (.pr .nl (.pr .nl (.pr .nl (.pr .nl (.hole y4)))))),.var (.pr (.hole y39) (.pr (.sl 2) (.pr (.sl 3) (.pr (.sl 4) (.pr (.sl 5) (.hole y4)))))),.row y12,.row y40,.row y15,.row y23]
abbrev bl_2:List BPat:=[.var (.pr (.pr (.hole y39) (.pr (.sl 1) (.pr (.sl 2) (.pr (.sl 3) (.pr (.sl 4) (.hole y4)))))) (.sl 5)),.row y12,.row y40,.row y15,.row y23,.row y24]
abbrev bl_3:List BPat:=[.var (.hole (.int .i64))]
abbrev bl_4:List BPat:=[.row y12,.var (.hole (.int .i64))]
abbrev bl_5:List BPat:=[.var (.ptr 1 []),.var (.pr (.pr (.hole y39) (.pr (.sl 2) (.pr (.sl 3) (.pr (.sl 4) (.pr (.sl 5) (.hole y4)))))) (.sl 6)),.row y12,.row y40,.row y15,.row y23,.row y24]
abbrev bl_6:List BPat:=[.lp 10485766 [4] (.cons (.ptr 2 []) .nil),.var (.hole (.one y21)),.var (.sl 3),.row (.int .i64)]
abbrev bl_7:List BPat:=[.lpt 10485766 [4] (.cons (.ptr 2 []) .nil),.var (.hole (.one y21)),.var (.sl 3),.row (.int .i64)]
abbrev bl_8:List BPat:=[.var (.hole y45),.var (.hole (.int .i64)),.var (.hole .bool)]
abbrev bl_9:List BPat:=[.var (.hole y45)]
abbrev bl_10:List BPat:=[.var (.hole y45),.var (.hole (.int .i64)),.var (.hole (.int .i64))]
abbrev bl_11:List BPat:=[.row y5,.var (.hole (.int .i64))]
abbrev bl_12:List BPat:=[.var (.hole y42)]
abbrev bl_13:List BPat:=[.var (.hole y45),.row y4]
abbrev bl_14:List BPat:=[.row (.int .i64)]
abbrev bl_15:List BPat:=[.var (.pr (.pr (.hole y39) (.pr (.sl 2) (.pr (.sl 3) (.pr (.sl 4) (.pr (.sl 5) (.hole y4)))))) (.sl 6)),.var (.hole y4),.row y12,.row y40,.row y15,.row y23,.row y24]
abbrev bl_18:List BPat:=[.var (.hole y39),.var (.pr .nl (.pr (.hole (.int .i64)) (.pr (.hole (.int .i64)) (.pr (.hole (.int .i64)) (.pr .nl .nl))))),.row y9]
abbrev bl_19:List BPat:=[.var (.hole y39),.var (.pr .nl (.pr (.hole (.int .i64)) (.pr (.hole (.int .i64)) (.pr (.hole (.int .i64)) (.pr .nl .nl))))),.row y9,.row (.slice y5)]
abbrev bl_20:List BPat:=[.var (.hole y45),.var (.hole y45)]
abbrev bl_21:List BPat:=[.var (.pr (.hole (.int .i64)) (.pr (.hole .bool) (.pr (.pr (.hole (.int .i64)) (.pr (.hole (.int .i64)) (.pr .nl (.hole (.int .i64))))) (.pr (.hole (.int .i64)) (.pr (.hole (.int .i64)) (.pr .nl .nl)))))),.var (.pr (.hole (.int .i64)) (.pr (.hole .bool) (.pr (.pr (.hole (.int .i64)) (.pr (.hole (.int .i64)) (.pr (.sl 2) (.hole (.int .i64))))) (.pr (.hole (.int .i64)) (.pr (.hole (.int .i64)) (.pr .nl .nl)))))),.row (.int .i64)]
abbrev bl_22:List BPat:=[.var (.hole y39),.var (.pr (.pr .nl (.pr (.hole (.int .i64)) (.pr (.hole (.int .i64)) (.pr (.hole (.int .i64)) (.pr .nl .nl))))) (.pr .nl (.pr .nl (.pr .nl (.pr .nl (.hole y4)))))),.var (.pr (.hole y39) (.pr (.sl 3) (.pr (.sl 4) (.pr .nl (.pr .nl (.hole y4)))))),.row y12,.row y40]
abbrev bl_23:List BPat:=[.var (.hole y39),.var (.pr (.pr .nl (.pr (.hole (.int .i64)) (.pr (.hole (.int .i64)) (.pr (.hole (.int .i64)) (.pr .nl .nl))))) (.pr .nl (.pr .nl (.pr .nl (.pr .nl (.hole y4)))))),.var (.pr (.hole y39) (.pr (.sl 3) (.pr (.sl 4) (.pr (.sl 5) (.pr .nl (.hole y4)))))),.row y12,.row y40,.row y15]
abbrev bl_24:List BPat:=[.var (.hole y45),.var (.pr (.pr .nl (.pr (.hole (.int .i64)) (.pr (.hole (.int .i64)) (.pr (.hole (.int .i64)) (.pr .nl .nl))))) (.pr .nl (.pr .nl (.pr .nl (.pr .nl (.hole y4))))))]
abbrev bl_25:List BPat:=[.var (.hole y4),.var (.hole y45),.var (.hole y45)]
abbrev bl_26:List BPat:=[.var (.pr (.hole (.int .i64)) (.pr (.hole (.int .i64)) (.pr .nl (.hole (.int .i64))))),.var (.pr (.hole (.int .i64)) (.pr (.hole (.int .i64)) (.pr (.sl 2) (.hole (.int .i64))))),.row (.int .i64)]
abbrev bl_27:List BPat:=[.var (.hole y46),.var (.pr (.pr (.pr .nl (.pr (.hole (.int .i64)) (.pr (.hole (.int .i64)) (.pr (.hole (.int .i64)) (.pr .nl .nl))))) (.pr .nl (.pr .nl (.pr .nl (.pr .nl (.hole y4)))))) .nl),.row y40]
abbrev bl_28:List BPat:=[.var (.hole y46),.var (.hole y5),.var (.pr (.pr (.pr .nl (.pr (.hole (.int .i64)) (.pr (.hole (.int .i64)) (.pr (.hole (.int .i64)) (.pr .nl .nl))))) (.pr .nl (.pr .nl (.pr .nl (.pr .nl (.hole y4)))))) .nl)]
abbrev bl_29:List BPat:=[.var (.hole y46),.var (.pr (.pr (.pr .nl (.pr (.hole (.int .i64)) (.pr (.hole (.int .i64)) (.pr (.hole (.int .i64)) (.pr .nl .nl))))) (.pr .nl (.pr .nl (.pr .nl (.pr .nl (.hole y4)))))) .nl)]
abbrev ts_0:List Ty:=[(.int .i64),(.int .i64),(.int .i64)]
abbrev ts_1:List Ty:=[.bool]
abbrev ts_2:List Ty:=[(.int .i64)]
abbrev ts_3:List Ty:=[y0,(.int .i64),(.int .i64)]
abbrev ts_4:List Ty:=[(.slice y9),(.int .i64),(.int .i64),y39]
abbrev ts_5:List Ty:=[(.int .i64),(.int .i64)]
abbrev ts_6:List Ty:=[y39,(.slice y5)]
abbrev ts_7:List Ty:=[(.int .i64),(.slice y5),y10,(.int .i64),(.int .i64),(.slice y5),(.int .i64),(.int .i64),y39]
abbrev ts_8:List Ty:=[y10,(.int .i64),(.int .i64),y39]
abbrev ts_9:List Ty:=[(.int .i64),(.int .i64),(.int .i64),y4,y39,y4,y18,y41,y19,y26]
abbrev ts_10:List Ty:=[(.int .i64),y39,y4,y18,y41,y19,y26,y27]
abbrev ts_11:List Ty:=[y39,y4,y18,y41,y19,y26,y27]
abbrev ts_12:List Ty:=[(.slice y5),(.int .i64)]
abbrev ts_13:List Ty:=[(.int .i64),(.slice y2),(.int .i64),(.int .i64),y45,(.slice y4)]
abbrev ts_14:List Ty:=[y4,y5,y39,y4,y18,y41,y19,y26,y27]
abbrev ts_15:List Ty:=[y23,(.int .i64),(.int .i64)]
abbrev ts_16:List Ty:=[(.slice y9),(.int .i64),(.int .i64),y39,(.int .i64),(.int .i64),(.int .i64),(.slice y9)]
abbrev ts_17:List Ty:=[y10,(.int .i64),(.int .i64),y39,(.int .i64),(.int .i64),(.int .i64),(.slice y9),y10]
abbrev ts_18:List Ty:=[y46,(.int .i64),y5]
abbrev sl_0:List (Nat × Pat):=[(0,(.hole (.int .i64))),(1,(.hole (.int .i64))),(2,(.hole (.int .i64)))]
abbrev sl_1:List (Nat × Pat):=[(0,(.hole .bool))]
abbrev sl_2:List (Nat × Pat):=[(0,(.hole (.int .i64)))]
abbrev sl_3:List (Nat × Pat):=[(4,(.hole (.int .i64)))]
abbrev sl_4:List (Nat × Pat):=[(0,(.hole (.slice y2))),(1,(.fn 194 .nil (.cons (.ptr 0 []) .nil)))]
abbrev sl_5:List (Nat × Pat):=[(2,(.hole (.int .i64))),(3,(.hole (.int .i64)))]
abbrev sl_6:List (Nat × Pat):=[(0,(.hole y39))]
abbrev sl_7:List (Nat × Pat):=[(0,(.hole (.int .i64))),(1,(.hole (.int .i64)))]
abbrev sl_8:List (Nat × Pat):=[(0,(.hole y39)),(1,(.hole (.slice y5)))]
abbrev sl_9:List (Nat × Pat):=[(1,(.ptr 0 [])),(7,(.hole (.int .i64))),(8,(.hole (.slice y5))),(22,(.hole y10)),(23,(.hole (.int .i64))),(24,(.hole (.int .i64))),(33,(.hole (.slice y5))),(34,(.hole (.int .i64))),(35,(.hole (.int .i64)))]
abbrev sl_10:List (Nat × Pat):=[(2,(.hole (.int .i64))),(3,(.hole (.int .i64))),(4,(.hole (.int .i64)))]
abbrev sl_11:List (Nat × Pat):=[(1,(.ptr 0 [])),(22,(.hole y10)),(23,(.hole (.int .i64))),(24,(.hole (.int .i64)))]
abbrev sl_12:List (Nat × Pat):=[(0,(.hole y21)),(1,(.hole (.int .i64)))]
abbrev sl_13:List (Nat × Pat):=[(0,(.hole y40)),(1,(.hole (.int .i64)))]
abbrev sl_14:List (Nat × Pat):=[(0,(.ptr 0 [])),(1,(.hole (.int .i64))),(2,(.hole (.int .i64)))]
abbrev sl_15:List (Nat × Pat):=[(0,(.ptr 0 []))]
abbrev sl_16:List (Nat × Pat):=[(0,(.hole y0)),(1,(.hole (.int .i64)))]
abbrev sl_17:List (Nat × Pat):=[(0,(.hole y5))]
abbrev sl_18:List (Nat × Pat):=[(0,(.hole (.slice y5)))]
abbrev sl_19:List (Nat × Pat):=[(0,(.hole y0)),(1,(.hole (.int .i64))),(2,(.hole (.int .i64)))]
abbrev sl_20:List (Nat × Pat):=[(0,(.hole y5)),(1,(.ptr 0 [])),(2,(.ptr 1 [])),(3,(.ptr 2 []))]
abbrev sl_21:List (Nat × Pat):=[(0,(.hole (.slice y5))),(1,(.fn 110 .nil (.cons (.ptr 0 []) (.cons (.ptr 1 []) (.cons (.ptr 2 []) .nil)))))]
abbrev sl_22:List (Nat × Pat):=[(0,(.hole (.slice y5))),(1,(.fn 115 .nil (.cons (.ptr 0 []) (.cons (.ptr 1 []) (.cons (.ptr 2 []) .nil)))))]
abbrev sl_23:List (Nat × Pat):=[(0,(.hole (.slice y5))),(1,(.hole (.int .i64)))]
abbrev sl_24:List (Nat × Pat):=[(0,(.hole (.slice y4))),(1,(.hole y4))]
abbrev sl_25:List (Nat × Pat):=[(0,(.ptr 0 [])),(1,(.hole (.int .i64)))]
abbrev sl_26:List (Nat × Pat):=[(0,(.ptr 0 [])),(1,(.hole y4)),(2,(.hole y5))]
abbrev sl_27:List (Nat × Pat):=[(0,(.hole y40)),(1,(.hole y5))]
abbrev sl_28:List (Nat × Pat):=[(0,(.hole y40)),(1,(.hole y30)),(2,(.hole (.int .i64)))]
abbrev sl_29:List (Nat × Pat):=[(0,(.ptr 0 [])),(1,(.hole y5)),(2,(.hole (.int .i64))),(3,(.hole .bool))]
abbrev sl_30:List (Nat × Pat):=[(0,(.hole y23)),(1,(.hole y5))]
abbrev sl_31:List (Nat × Pat):=[(0,(.hole y23)),(1,(.hole (.int .i64))),(2,(.hole (.int .i64)))]
abbrev sl_32:List (Nat × Pat):=[(1,(.ptr 0 [])),(2,(.ptr 1 [])),(3,(.sl 2)),(23,(.hole (.slice y9))),(24,(.hole (.int .i64))),(25,(.hole (.int .i64)))]
abbrev sl_33:List (Nat × Pat):=[(1,(.ptr 0 [])),(2,(.ptr 1 [])),(3,(.sl 2)),(6,(.sl 3)),(48,(.hole y10)),(49,(.hole (.int .i64))),(50,(.hole (.int .i64)))]
abbrev sl_34:List (Nat × Pat):=[(1,(.ptr 0 [])),(27,(.hole (.slice y9))),(28,(.hole (.int .i64))),(29,(.hole (.int .i64)))]
abbrev sl_35:List (Nat × Pat):=[(4,(.hole .bool))]
abbrev sl_36:List (Nat × Pat):=[(0,(.hole (.slice y9))),(1,(.hole (.slice y9))),(13,(.hole (.int .i64))),(14,(.hole (.int .i64)))]
abbrev sl_37:List (Nat × Pat):=[(2,(.ptr 0 [])),(3,(.ptr 1 []))]
abbrev sl_38:List (Nat × Pat):=[(0,(.hole (.slice y5))),(1,(.hole (.slice y5))),(12,(.hole (.int .i64))),(13,(.hole (.int .i64)))]
abbrev sl_39:List (Nat × Pat):=[(0,(.hole y46))]
abbrev sl_40:List (Nat × Pat):=[(3,(.ptr 0 [])),(6,(.ptr 1 [])),(7,(.sl 2))]
abbrev sl_41:List (Nat × Pat):=[(0,(.hole y46)),(1,(.hole (.int .i64)))]
abbrev sl_42:List (Nat × Pat):=[(0,(.hole y46)),(1,(.hole (.int .i64))),(2,(.hole y5))]
abbrev Zud:Shape:={ sl:=sl_0,bl:=[],ts:=ts_0,pin:=0 }
abbrev Zzu:Shape:={ sl:=sl_1,bl:=[],ts:=ts_1,pin:=0 }
def Z7x (x:T4):Option (Bool) :=
 bif (decide (x.1 ≥ x.2.1)) then
 some (decide (x.1 ≤ x.2.2))
 else
 some false
abbrev Z15b:=Spec.shp Zud Zzu Z7x
def Zkk:Ctx:={ tb:=mkTb T2.tbl,fx:=[],sum:=[],nt:=15,pin:=0,nr:=true,ys:=[] }
theorem Z7y:Sound Tryz.prog 191 (Z15b) :=
 Sound.shp (C:=Zkk) (fn:=Tryz.f191) (by kernel_rfl) (c:=bodyOf Tryz.f191) (by kernel_rfl) (by decide) (ctxOK mixed tbl_ok rfl trivial trivial) (SumOK.of trivial) (by kernel_rfl) Zud Zzu rfl (by decide) (by decide) rfl (by decide) rfl Z7x (fun x=>by kernel_rfl)
abbrev Zum:Shape:={ sl:=sl_2,bl:=[],ts:=ts_2,pin:=0 }
abbrev Z103:Shape:={ sl:=sl_1,bl:=[],ts:=ts_1,pin:=0 }
def Z8e (x:(Int)):Option (Bool) :=
 (Z7x (x,(Int.negSucc 0),(3:Int))).bind fun r14 =>
 some (Bool.not r14)
abbrev Z15k:=Spec.shp Zum Z103 Z8e
def Zkt:Ctx:={ tb:=mkTb T2.tbl,fx:=[(191,[],Z15b)],sum:=[],nt:=6,pin:=0,nr:=true,ys:=[] }
theorem Z8f:Sound Tryz.prog 192 (Z15k) :=
 Sound.shp (C:=Zkt) (fn:=Tryz.f192) (by kernel_rfl) (c:=bodyOf Tryz.f192) (by kernel_rfl) (by decide) (ctxOK mixed tbl_ok rfl ⟨Z7y,trivial⟩ trivial) (SumOK.of trivial) (by kernel_rfl) Zum Z103 rfl (by decide) (by decide) rfl (by decide) rfl Z8e (fun x=>by kernel_rfl)
abbrev Zqd:Shape:={ sl:=[(0,(.hole y0)),(1,(.fn 192 .nil .nil)),(7,(.hole (.int .i64))),(8,(.hole (.int .i64)))],bl:=[],ts:=ts_3,pin:=0 }
abbrev Zoe:List (ETag × Shape):=[(.ret,{ sl:=sl_3,bl:=[],ts:=ts_2,pin:=0 }),(.exit 0,{ sl:=[],bl:=[],ts:=[],pin:=0 })]
def Zev (x:T9):Option (T9 ⊕ ((Int) ⊕ Unit)) :=
 bif (decide (x.2.2 < x.2.1)) then
 bif (inb x.2.2 (List.length x.1)) then
 (Z8e (getAt (0:Int) x.1 (toN x.2.2))).bind fun r13 =>
 bif r13 then
 some (.inr (.inl x.2.2))
 else
 some (.inl (x.1,x.2.1,(IntKind.wrap .i64 (x.2.2+(1:Int)))))
 else
 none
 else
 some (.inr (.inr ()))
def Zm5:Ctx:={ tb:=mkTb T2.tbl,fx:=[(192,[],Z15k)],sum:=[],nt:=19,pin:=0,nr:=true,ys:=[] }
theorem Zew:CSound Tryz.prog ⟨19,0,true⟩ (.loop (loopOf 3 Tryz.f140)) (Yat Zqd Zoe (loop Zev)) :=
 Y89 (C:=Zm5) (ctxOK mixed tbl_ok rfl ⟨Z8f,trivial⟩ trivial) (SumOK.of trivial) Zqd Zoe rfl rfl Zev (fun x=>by kernel_rfl)
abbrev Zvm:Shape:={ sl:=[(0,(.hole y0)),(1,(.fn 192 .nil .nil))],bl:=[],ts:=[y0],pin:=0 }
abbrev Z113:Shape:={ sl:=sl_2,bl:=[],ts:=ts_2,pin:=0 }
def Zaf (x:(List Int)):Option (Int) :=
 (loop Zev (x,(((List.length x):Nat):Int),(0:Int))).bind fun r12 =>
 match r12 with
 | .inl y13 =>
 some y13
 | .inr y13 =>
 some (Int.negSucc 0)
abbrev Z16j:=Spec.shp Zvm Z113 Zaf
def Zm4:Ctx:={ tb:=mkTb T2.tbl,fx:=[(192,[],Z15k)],sum:=[(0,3,Yat Zqd Zoe (loop Zev))],nt:=19,pin:=0,nr:=true,ys:=[] }
theorem Zag:Sound Tryz.prog 140 (Z16j) :=
 Sound.shp (C:=Zm4) (fn:=Tryz.f140) (by kernel_rfl) (c:=bodyOf Tryz.f140) (by kernel_rfl) (by decide) (ctxOK mixed tbl_ok rfl ⟨Z8f,trivial⟩ trivial) (SumOK.of ⟨(Yav (d:=.loop (loopOf 3 Tryz.f140)) (by kernel_rfl) Zew),trivial⟩) (by kernel_rfl) Zvm Z113 rfl (by decide) (by decide) rfl (by decide) rfl Zaf (fun x=>by kernel_rfl)
abbrev Zvb:Shape:={ sl:=[(0,(.hole y0)),(1,(.fn 192 .nil .nil))],bl:=[],ts:=[y0],pin:=0 }
abbrev Z10s:Shape:={ sl:=sl_1,bl:=[],ts:=ts_1,pin:=0 }
def Z9t (x:(List Int)):Option (Bool) :=
 (Zaf x).bind fun r11 =>
 some (decide (r11 ≥ (0:Int)))
abbrev Z168:=Spec.shp Zvb Z10s Z9t
def Zlk:Ctx:={ tb:=mkTb T2.tbl,fx:=[(140,[192],Z16j)],sum:=[],nt:=9,pin:=0,nr:=true,ys:=[] }
theorem Z9u:Sound Tryz.prog 86 (Z168) :=
 Sound.shp (C:=Zlk) (fn:=Tryz.f86) (by kernel_rfl) (c:=bodyOf Tryz.f86) (by kernel_rfl) (by decide) (ctxOK mixed tbl_ok rfl ⟨Zag,trivial⟩ trivial) (SumOK.of trivial) (by kernel_rfl) Zvb Z10s rfl (by decide) (by decide) rfl (by decide) rfl Z9t (fun x=>by kernel_rfl)
abbrev Zun:Shape:={ sl:=[(0,(.hole y2)),(1,(.ptr 0 []))],bl:=bl_0,ts:=[y2,y39],pin:=0 }
abbrev Z104:Shape:={ sl:=sl_1,bl:=bl_0,ts:=[.bool,y39],pin:=1 }
def Z8g (x:(T0 × T47)):Option (Bool × T47) :=
 (Z7x (x.1.2,(0:Int),(IntKind.wrap .i64 ((((List.length x.2.1):Nat):Int) - (1:Int))))).bind fun r16 =>
 some ((Bool.not r16),x.2)
abbrev Z15l:=Spec.shp Zun Z104 Z8g
def Zku:Ctx:={ tb:=mkTb T2.tbl,fx:=[(191,[],Z15b)],sum:=[],nt:=12,pin:=1,nr:=true,ys:=[] }
theorem Z8h:Sound Tryz.prog 194 (Z15l) :=
 Sound.shp (C:=Zku) (fn:=Tryz.f194) (by kernel_rfl) (c:=bodyOf Tryz.f194) (by kernel_rfl) (by decide) (ctxOK mixed tbl_ok rfl ⟨Z7y,trivial⟩ trivial) (SumOK.of trivial) (by kernel_rfl) Zun Z104 rfl (by decide) (by decide) rfl (by decide) rfl Z8g (fun x=>by kernel_rfl)
abbrev Zq5:Shape:={ sl:=[(0,(.hole (.slice y2))),(1,(.fn 194 .nil (.cons (.ptr 0 []) .nil))),(7,(.hole (.int .i64))),(8,(.hole (.int .i64)))],bl:=bl_0,ts:=[(.slice y2),(.int .i64),(.int .i64),y39],pin:=1 }
abbrev Zo6:List (ETag × Shape):=[(.ret,{ sl:=sl_3,bl:=bl_0,ts:=[(.int .i64),y39],pin:=1 }),(.exit 0,{ sl:=[],bl:=bl_0,ts:=[y39],pin:=1 })]
def Zef (x:(List T0 × Int × Int × T47)):Option ((List T0 × Int × Int × T47) ⊕ ((Int × T47) ⊕ (T47))) :=
 bif (decide (x.2.2.1 < x.2.1)) then
 bif (inb x.2.2.1 (List.length x.1)) then
 (Z8g ((getAt (false,(0:Int)) x.1 (toN x.2.2.1)),x.2.2.2)).bind fun r15 =>
 bif r15.1 then
 some (.inr (.inl (x.2.2.1,r15.2)))
 else
 some (.inl (x.1,x.2.1,(IntKind.wrap .i64 (x.2.2.1+(1:Int))),r15.2))
 else
 none
 else
 some (.inr (.inr x.2.2.2))
def Zlp:Ctx:={ tb:=mkTb T2.tbl,fx:=[(194,[],Z15l)],sum:=[],nt:=19,pin:=1,nr:=true,ys:=[] }
theorem Zeg:CSound Tryz.prog ⟨19,1,true⟩ (.loop (loopOf 3 Tryz.f222)) (Yat Zq5 Zo6 (loop Zef)) :=
 Y89 (C:=Zlp) (ctxOK mixed tbl_ok rfl ⟨Z8h,trivial⟩ trivial) (SumOK.of trivial) Zq5 Zo6 rfl rfl Zef (fun x=>by kernel_rfl)
abbrev Zve:Shape:={ sl:=sl_4,bl:=bl_0,ts:=[(.slice y2),y39],pin:=0 }
abbrev Z10v:Shape:={ sl:=sl_2,bl:=bl_0,ts:=[(.int .i64),y39],pin:=1 }
def Z9z (x:(List T0 × T47)):Option (Int × T47) :=
 (loop Zef (x.1,(((List.length x.1):Nat):Int),(0:Int),x.2)).bind fun r14 =>
 match r14 with
 | .inl y15 =>
 some (y15.1,y15.2)
 | .inr y15 =>
 some ((Int.negSucc 0),y15)
abbrev Z16b:=Spec.shp Zve Z10v Z9z
def Zlo:Ctx:={ tb:=mkTb T2.tbl,fx:=[(194,[],Z15l)],sum:=[(0,3,Yat Zq5 Zo6 (loop Zef))],nt:=19,pin:=1,nr:=true,ys:=[] }
theorem Za0:Sound Tryz.prog 222 (Z16b) :=
 Sound.shp (C:=Zlo) (fn:=Tryz.f222) (by kernel_rfl) (c:=bodyOf Tryz.f222) (by kernel_rfl) (by decide) (ctxOK mixed tbl_ok rfl ⟨Z8h,trivial⟩ trivial) (SumOK.of ⟨(Yav (d:=.loop (loopOf 3 Tryz.f222)) (by kernel_rfl) Zeg),trivial⟩) (by kernel_rfl) Zve Z10v rfl (by decide) (by decide) rfl (by decide) rfl Z9z (fun x=>by kernel_rfl)
abbrev Zv5:Shape:={ sl:=sl_4,bl:=bl_0,ts:=[(.slice y2),y39],pin:=0 }
abbrev Z10m:Shape:={ sl:=sl_1,bl:=bl_0,ts:=[.bool,y39],pin:=1 }
def Z9h (x:(List T0 × T47)):Option (Bool × T47) :=
 (Z9z (x.1,x.2)).bind fun r13 =>
 some ((decide (r13.1 ≥ (0:Int))),r13.2)
abbrev Z162:=Spec.shp Zv5 Z10m Z9h
def Zle:Ctx:={ tb:=mkTb T2.tbl,fx:=[(222,[194],Z16b)],sum:=[],nt:=9,pin:=1,nr:=true,ys:=[] }
theorem Z9i:Sound Tryz.prog 193 (Z162) :=
 Sound.shp (C:=Zle) (fn:=Tryz.f193) (by kernel_rfl) (c:=bodyOf Tryz.f193) (by kernel_rfl) (by decide) (ctxOK mixed tbl_ok rfl ⟨Za0,trivial⟩ trivial) (SumOK.of trivial) (by kernel_rfl) Zv5 Z10m rfl (by decide) (by decide) rfl (by decide) rfl Z9h (fun x=>by kernel_rfl)
abbrev Zq2:Shape:={ sl:=[(1,(.ptr 0 [])),(45,(.hole (.slice y9))),(46,(.hole (.int .i64))),(47,(.hole (.int .i64)))],bl:=bl_0,ts:=ts_4,pin:=0 }
abbrev Zo3:List (ETag × Shape):=[(.ret,{ sl:=sl_5,bl:=[],ts:=ts_5,pin:=0 }),(.exit 0,{ sl:=[],bl:=[],ts:=[],pin:=0 })]
def Ze9 (x:T53):Option (T53 ⊕ ((Int × Int) ⊕ Unit)) :=
 bif (decide (x.2.2.1 < x.2.1)) then
 bif (inb x.2.2.1 (List.length x.1)) then
 bif (decide ((((List.length (getAt (([]:List T0),false) x.1 (toN x.2.2.1)).1):Nat):Int) > (4:Int))) then
 some (.inr (.inl (x.2.2.1,(2:Int))))
 else
 (Z9h ((getAt (([]:List T0),false) x.1 (toN x.2.2.1)).1,x.2.2.2)).bind fun r12 =>
 bif r12.1 then
 some (.inr (.inl (x.2.2.1,(3:Int))))
 else
 some (.inl (x.1,x.2.1,(IntKind.wrap .i64 (x.2.2.1+(1:Int))),r12.2))
 else
 none
 else
 some (.inr (.inr ()))
def Zkv:Ctx:={ tb:=mkTb T2.tbl,fx:=[(191,[],Z15b),(86,[192],Z168),(193,[194],Z162)],sum:=[],nt:=65,pin:=0,nr:=true,ys:=[] }
theorem Zea:CSound Tryz.prog ⟨65,0,true⟩ (.loop (loopOf 8 Tryz.f154)) (Yat Zq2 Zo3 (loop Ze9)) :=
 Y89 (C:=Zkv) (ctxOK mixed tbl_ok rfl ⟨Z7y,Z9u,Z9i,trivial⟩ trivial) (SumOK.of trivial) Zq2 Zo3 rfl rfl Ze9 (fun x=>by kernel_rfl)
abbrev Zul:Shape:={ sl:=sl_6,bl:=[],ts:=[y39],pin:=0 }
abbrev Z102:Shape:={ sl:=sl_7,bl:=[],ts:=ts_5,pin:=0 }
def Z8d (x:(T47)):Option (Int × Int) :=
 bif (decide ((((List.length x.1):Nat):Int) ≤ (4:Int))) then
 (Z7x (x.2.1,(0:Int),(2:Int))).bind fun r6 =>
 bif r6 then
 (Z7x (x.2.2.1,(0:Int),(2:Int))).bind fun r7 =>
 bif r7 then
 (Z7x (x.2.2.2.1,(0:Int),(4:Int))).bind fun r8 =>
 bif (Bool.not r8) then
 some ((Int.negSucc 0),(2:Int))
 else
 bif (decide ((((List.length x.2.2.2.2.1):Nat):Int) > (4:Int))) then
 some ((Int.negSucc 0),(2:Int))
 else
 (Z7x ((((List.length x.2.2.2.2.2):Nat):Int),(1:Int),(6:Int))).bind fun r9 =>
 bif (Bool.not r9) then
 some ((Int.negSucc 0),(2:Int))
 else
 (Z9t x.1).bind fun r10 =>
 bif r10 then
 some ((Int.negSucc 0),(3:Int))
 else
 (loop Ze9 (x.2.2.2.2.1,(((List.length x.2.2.2.2.1):Nat):Int),(0:Int),x)).bind fun r11 =>
 match r11 with
 | .inl y12 =>
 some (y12.1,y12.2)
 | .inr y12 =>
 some ((Int.negSucc 0),(0:Int))
 else
 some ((Int.negSucc 0),(2:Int))
 else
 some ((Int.negSucc 0),(2:Int))
 else
 some ((Int.negSucc 0),(2:Int))
abbrev Z15j:=Spec.shp Zul Z102 Z8d
def Zks:Ctx:={ tb:=mkTb T2.tbl,fx:=[(191,[],Z15b),(86,[192],Z168),(193,[194],Z162)],sum:=[(0,8,Yat Zq2 Zo3 (loop Ze9))],nt:=65,pin:=0,nr:=true,ys:=[] }
theorem Z8i:Sound Tryz.prog 154 (Z15j) :=
 Sound.shp (C:=Zks) (fn:=Tryz.f154) (by kernel_rfl) (c:=bodyOf Tryz.f154) (by kernel_rfl) (by decide) (ctxOK mixed tbl_ok rfl ⟨Z7y,Z9u,Z9i,trivial⟩ trivial) (SumOK.of ⟨(Yav (d:=.loop (loopOf 8 Tryz.f154)) (by kernel_rfl) Zea),trivial⟩) (by kernel_rfl) Zul Z102 rfl (by decide) (by decide) rfl (by decide) rfl Z8d (fun x=>by kernel_rfl)
abbrev Zui:Shape:={ sl:=[],bl:=[],ts:=[],pin:=0 }
abbrev Zzz:Shape:={ sl:=[(0,(.pr (.one (.fn 223 .nil .nil)) (.pr (.one (.fn 224 .nil .nil)) (.pr (.one (.fn 224 .nil .nil)) (.pr (.one (.fn 224 .nil .nil)) (.pr (.one (.fn 225 .nil .nil)) (.pr (.one (.fn 226 .nil .nil)) (.pr (.one (.fn 226 .nil .nil)) (.pr (.one (.fn 227 .nil .nil)) (.pr (.one (.fn 227 .nil .nil)) (.pr (.one (.fn 228 .nil .nil)) (.pr (.one (.fn 229 .nil .nil)) (.pr (.one (.fn 229 .nil .nil)) (.pr (.one (.fn 230 .nil .nil)) (.one (.fn 230 .nil .nil))))))))))))))))],bl:=[],ts:=[],pin:=0 }
def Z87 (x:Unit):Option Unit :=
 some ()
abbrev Z15g:=Spec.shp Zui Zzz Z87
def Zkp:Ctx:={ tb:=mkTb T2.tbl,fx:=[],sum:=[],nt:=16,pin:=0,nr:=true,ys:=[] }
theorem Z88:Sound Tryz.prog 195 (Z15g) :=
 Sound.shp (C:=Zkp) (fn:=Tryz.f195) (by kernel_rfl) (c:=bodyOf Tryz.f195) (by kernel_rfl) (by decide) (ctxOK mixed tbl_ok rfl trivial trivial) (SumOK.of trivial) (by kernel_rfl) Zui Zzz rfl (by decide) (by decide) rfl (by decide) rfl Z87 (fun x=>by kernel_rfl)
abbrev Zug:Shape:={ sl:=sl_8,bl:=[],ts:=ts_6,pin:=0 }
abbrev Zzx:Shape:={ sl:=sl_2,bl:=[],ts:=ts_2,pin:=0 }
def Z83 (x:T50):Option (Int) :=
 some (1:Int)
abbrev Z15e:=Spec.shp Zug Zzx Z83
def Zkn:Ctx:={ tb:=mkTb T2.tbl,fx:=[],sum:=[],nt:=5,pin:=0,nr:=true,ys:=[] }
theorem Z84:Sound Tryz.prog 223 (Z15e) :=
 Sound.shp (C:=Zkn) (fn:=Tryz.f223) (by kernel_rfl) (c:=bodyOf Tryz.f223) (by kernel_rfl) (by decide) (ctxOK mixed tbl_ok rfl trivial trivial) (SumOK.of trivial) (by kernel_rfl) Zug Zzx rfl (by decide) (by decide) rfl (by decide) rfl Z83 (fun x=>by kernel_rfl)
abbrev Zuc:Shape:={ sl:=sl_8,bl:=[],ts:=ts_6,pin:=0 }
abbrev Zzt:Shape:={ sl:=sl_2,bl:=[],ts:=ts_2,pin:=0 }
def Z7v (x:T50):Option (Int) :=
 some (((List.length x.1.1):Nat):Int)
abbrev Z15a:=Spec.shp Zuc Zzt Z7v
def Zkj:Ctx:={ tb:=mkTb T2.tbl,fx:=[],sum:=[],nt:=8,pin:=0,nr:=true,ys:=[] }
theorem Z7w:Sound Tryz.prog 224 (Z15a) :=
 Sound.shp (C:=Zkj) (fn:=Tryz.f224) (by kernel_rfl) (c:=bodyOf Tryz.f224) (by kernel_rfl) (by decide) (ctxOK mixed tbl_ok rfl trivial trivial) (SumOK.of trivial) (by kernel_rfl) Zuc Zzt rfl (by decide) (by decide) rfl (by decide) rfl Z7v (fun x=>by kernel_rfl)
abbrev Zuk:Shape:={ sl:=sl_8,bl:=[],ts:=ts_6,pin:=0 }
abbrev Z101:Shape:={ sl:=sl_2,bl:=[],ts:=ts_2,pin:=0 }
def Z8b (x:T50):Option (Int) :=
 some (((List.length x.1.2.2.2.2.1):Nat):Int)
abbrev Z15i:=Spec.shp Zuk Z101 Z8b
def Zkr:Ctx:={ tb:=mkTb T2.tbl,fx:=[],sum:=[],nt:=8,pin:=0,nr:=true,ys:=[] }
theorem Z8c:Sound Tryz.prog 225 (Z15i) :=
 Sound.shp (C:=Zkr) (fn:=Tryz.f225) (by kernel_rfl) (c:=bodyOf Tryz.f225) (by kernel_rfl) (by decide) (ctxOK mixed tbl_ok rfl trivial trivial) (SumOK.of trivial) (by kernel_rfl) Zuk Z101 rfl (by decide) (by decide) rfl (by decide) rfl Z8b (fun x=>by kernel_rfl)
abbrev Zuf:Shape:={ sl:=sl_8,bl:=[],ts:=ts_6,pin:=0 }
abbrev Zzw:Shape:={ sl:=sl_2,bl:=[],ts:=ts_2,pin:=0 }
def Z81 (x:T50):Option (Int) :=
 some x.1.2.1
abbrev Z15d:=Spec.shp Zuf Zzw Z81
def Zkm:Ctx:={ tb:=mkTb T2.tbl,fx:=[],sum:=[],nt:=7,pin:=0,nr:=true,ys:=[] }
theorem Z82:Sound Tryz.prog 226 (Z15d) :=
 Sound.shp (C:=Zkm) (fn:=Tryz.f226) (by kernel_rfl) (c:=bodyOf Tryz.f226) (by kernel_rfl) (by decide) (ctxOK mixed tbl_ok rfl trivial trivial) (SumOK.of trivial) (by kernel_rfl) Zuf Zzw rfl (by decide) (by decide) rfl (by decide) rfl Z81 (fun x=>by kernel_rfl)
abbrev Zuh:Shape:={ sl:=sl_8,bl:=[],ts:=ts_6,pin:=0 }
abbrev Zzy:Shape:={ sl:=sl_2,bl:=[],ts:=ts_2,pin:=0 }
def Z85 (x:T50):Option (Int) :=
 some x.1.2.2.1
abbrev Z15f:=Spec.shp Zuh Zzy Z85
def Zko:Ctx:={ tb:=mkTb T2.tbl,fx:=[],sum:=[],nt:=7,pin:=0,nr:=true,ys:=[] }
theorem Z86:Sound Tryz.prog 227 (Z15f) :=
 Sound.shp (C:=Zko) (fn:=Tryz.f227) (by kernel_rfl) (c:=bodyOf Tryz.f227) (by kernel_rfl) (by decide) (ctxOK mixed tbl_ok rfl trivial trivial) (SumOK.of trivial) (by kernel_rfl) Zuh Zzy rfl (by decide) (by decide) rfl (by decide) rfl Z85 (fun x=>by kernel_rfl)
abbrev Zub:Shape:={ sl:=sl_8,bl:=[],ts:=ts_6,pin:=0 }
abbrev Zzs:Shape:={ sl:=sl_2,bl:=[],ts:=ts_2,pin:=0 }
def Z7t (x:T50):Option (Int) :=
 some (((List.length x.1.2.2.2.2.2):Nat):Int)
abbrev Z159:=Spec.shp Zub Zzs Z7t
def Zki:Ctx:={ tb:=mkTb T2.tbl,fx:=[],sum:=[],nt:=8,pin:=0,nr:=true,ys:=[] }
theorem Z7u:Sound Tryz.prog 228 (Z159) :=
 Sound.shp (C:=Zki) (fn:=Tryz.f228) (by kernel_rfl) (c:=bodyOf Tryz.f228) (by kernel_rfl) (by decide) (ctxOK mixed tbl_ok rfl trivial trivial) (SumOK.of trivial) (by kernel_rfl) Zub Zzs rfl (by decide) (by decide) rfl (by decide) rfl Z7t (fun x=>by kernel_rfl)
abbrev Zuo:Shape:={ sl:=sl_8,bl:=[],ts:=ts_6,pin:=0 }
abbrev Z105:Shape:={ sl:=sl_2,bl:=[],ts:=ts_2,pin:=0 }
def Z8j (x:T50):Option (Int) :=
 some x.1.2.2.2.1
abbrev Z15m:=Spec.shp Zuo Z105 Z8j
def Zkw:Ctx:={ tb:=mkTb T2.tbl,fx:=[],sum:=[],nt:=7,pin:=0,nr:=true,ys:=[] }
theorem Z8k:Sound Tryz.prog 229 (Z15m) :=
 Sound.shp (C:=Zkw) (fn:=Tryz.f229) (by kernel_rfl) (c:=bodyOf Tryz.f229) (by kernel_rfl) (by decide) (ctxOK mixed tbl_ok rfl trivial trivial) (SumOK.of trivial) (by kernel_rfl) Zuo Z105 rfl (by decide) (by decide) rfl (by decide) rfl Z8j (fun x=>by kernel_rfl)
abbrev Zuj:Shape:={ sl:=sl_8,bl:=[],ts:=ts_6,pin:=0 }
abbrev Z100:Shape:={ sl:=sl_2,bl:=[],ts:=ts_2,pin:=0 }
def Z89 (x:T50):Option (Int) :=
 some (IntKind.wrap .i64 ((((List.length x.2):Nat):Int)+(1:Int)))
abbrev Z15h:=Spec.shp Zuj Z100 Z89
def Zkq:Ctx:={ tb:=mkTb T2.tbl,fx:=[],sum:=[],nt:=8,pin:=0,nr:=true,ys:=[] }
theorem Z8a:Sound Tryz.prog 230 (Z15h) :=
 Sound.shp (C:=Zkq) (fn:=Tryz.f230) (by kernel_rfl) (c:=bodyOf Tryz.f230) (by kernel_rfl) (by decide) (ctxOK mixed tbl_ok rfl trivial trivial) (SumOK.of trivial) (by kernel_rfl) Zuj Z100 rfl (by decide) (by decide) rfl (by decide) rfl Z89 (fun x=>by kernel_rfl)
abbrev Zue:Shape:={ sl:=[(0,(.hole y39)),(1,(.hole (.slice y5))),(2,(.hole y5))],bl:=[],ts:=[y39,(.slice y5),y5],pin:=0 }
abbrev Zzv:Shape:={ sl:=sl_2,bl:=[],ts:=ts_2,pin:=0 }
def Z7z (x:(T47 × List (T7) × T7)):Option (Int) :=
 (Z7x (x.2.2.1,(0:Int),(13:Int))).bind fun r9 =>
 bif (Bool.not r9) then
 some (11:Int)
 else
 bif (x.2.2.1 == (7:Int)) then
 (Z87 ()).bind fun r10 =>
 bif (x.2.2.1 == (((0:Nat):Nat):Int)) then
 (Z83 (x.1,x.2.1)).bind fun r11 =>
 (Z7x (x.2.2.2.1,(0:Int),(IntKind.wrap .i64 (r11 - (1:Int))))).bind fun r12 =>
 bif (Bool.not r12) then
 some (3:Int)
 else
 (Z7x (x.2.2.2.2,(0:Int),(((List.length x.2.1):Nat):Int))).bind fun r13 =>
 bif (Bool.not r13) then
 some (3:Int)
 else
 some (0:Int)
 else
 bif (x.2.2.1 == ((((0:Nat)+(1:Nat)):Nat):Int)) then
 (Z7v (x.1,x.2.1)).bind fun r11 =>
 (Z7x (x.2.2.2.1,(0:Int),(IntKind.wrap .i64 (r11 - (1:Int))))).bind fun r12 =>
 bif (Bool.not r12) then
 some (3:Int)
 else
 (Z7x (x.2.2.2.2,(0:Int),(((List.length x.2.1):Nat):Int))).bind fun r13 =>
 bif (Bool.not r13) then
 some (3:Int)
 else
 some (0:Int)
 else
 bif (x.2.2.1 == (((((0:Nat)+(1:Nat))+(1:Nat)):Nat):Int)) then
 (Z7v (x.1,x.2.1)).bind fun r11 =>
 (Z7x (x.2.2.2.1,(0:Int),(IntKind.wrap .i64 (r11 - (1:Int))))).bind fun r12 =>
 bif (Bool.not r12) then
 some (3:Int)
 else
 (Z7x (x.2.2.2.2,(0:Int),(((List.length x.2.1):Nat):Int))).bind fun r13 =>
 bif (Bool.not r13) then
 some (3:Int)
 else
 some (0:Int)
 else
 bif (x.2.2.1 == ((((((0:Nat)+(1:Nat))+(1:Nat))+(1:Nat)):Nat):Int)) then
 (Z7v (x.1,x.2.1)).bind fun r11 =>
 (Z7x (x.2.2.2.1,(0:Int),(IntKind.wrap .i64 (r11 - (1:Int))))).bind fun r12 =>
 bif (Bool.not r12) then
 some (3:Int)
 else
 (Z7x (x.2.2.2.2,(0:Int),(((List.length x.2.1):Nat):Int))).bind fun r13 =>
 bif (Bool.not r13) then
 some (3:Int)
 else
 some (0:Int)
 else
 bif (x.2.2.1 == (((((((0:Nat)+(1:Nat))+(1:Nat))+(1:Nat))+(1:Nat)):Nat):Int)) then
 (Z8b (x.1,x.2.1)).bind fun r11 =>
 (Z7x (x.2.2.2.1,(0:Int),(IntKind.wrap .i64 (r11 - (1:Int))))).bind fun r12 =>
 bif (Bool.not r12) then
 some (3:Int)
 else
 (Z7x (x.2.2.2.2,(0:Int),(((List.length x.2.1):Nat):Int))).bind fun r13 =>
 bif (Bool.not r13) then
 some (3:Int)
 else
 some (0:Int)
 else
 bif (x.2.2.1 == ((((((((0:Nat)+(1:Nat))+(1:Nat))+(1:Nat))+(1:Nat))+(1:Nat)):Nat):Int)) then
 (Z81 (x.1,x.2.1)).bind fun r11 =>
 (Z7x (x.2.2.2.1,(0:Int),(IntKind.wrap .i64 (r11 - (1:Int))))).bind fun r12 =>
 bif (Bool.not r12) then
 some (3:Int)
 else
 (Z7x (x.2.2.2.2,(0:Int),(((List.length x.2.1):Nat):Int))).bind fun r13 =>
 bif (Bool.not r13) then
 some (3:Int)
 else
 some (0:Int)
 else
 bif (x.2.2.1 == (((((((((0:Nat)+(1:Nat))+(1:Nat))+(1:Nat))+(1:Nat))+(1:Nat))+(1:Nat)):Nat):Int)) then
 (Z81 (x.1,x.2.1)).bind fun r11 =>
 (Z7x (x.2.2.2.1,(0:Int),(IntKind.wrap .i64 (r11 - (1:Int))))).bind fun r12 =>
 bif (Bool.not r12) then
 some (3:Int)
 else
 (Z7x (x.2.2.2.2,(0:Int),(((List.length x.2.1):Nat):Int))).bind fun r13 =>
 bif (Bool.not r13) then
 some (3:Int)
 else
 some (0:Int)
 else
 bif (x.2.2.1 == ((((((((((0:Nat)+(1:Nat))+(1:Nat))+(1:Nat))+(1:Nat))+(1:Nat))+(1:Nat))+(1:Nat)):Nat):Int)) then
 (Z85 (x.1,x.2.1)).bind fun r11 =>
 (Z7x (x.2.2.2.1,(0:Int),(IntKind.wrap .i64 (r11 - (1:Int))))).bind fun r12 =>
 bif (Bool.not r12) then
 some (3:Int)
 else
 (Z7x (x.2.2.2.2,(0:Int),(((List.length x.2.1):Nat):Int))).bind fun r13 =>
 bif (Bool.not r13) then
 some (3:Int)
 else
 some (0:Int)
 else
 bif (x.2.2.1 == (((((((((((0:Nat)+(1:Nat))+(1:Nat))+(1:Nat))+(1:Nat))+(1:Nat))+(1:Nat))+(1:Nat))+(1:Nat)):Nat):Int)) then
 (Z85 (x.1,x.2.1)).bind fun r11 =>
 (Z7x (x.2.2.2.1,(0:Int),(IntKind.wrap .i64 (r11 - (1:Int))))).bind fun r12 =>
 bif (Bool.not r12) then
 some (3:Int)
 else
 (Z7x (x.2.2.2.2,(0:Int),(((List.length x.2.1):Nat):Int))).bind fun r13 =>
 bif (Bool.not r13) then
 some (3:Int)
 else
 some (0:Int)
 else
 bif (x.2.2.1 == ((((((((((((0:Nat)+(1:Nat))+(1:Nat))+(1:Nat))+(1:Nat))+(1:Nat))+(1:Nat))+(1:Nat))+(1:Nat))+(1:Nat)):Nat):Int)) then
 (Z7t (x.1,x.2.1)).bind fun r11 =>
 (Z7x (x.2.2.2.1,(0:Int),(IntKind.wrap .i64 (r11 - (1:Int))))).bind fun r12 =>
 bif (Bool.not r12) then
 some (3:Int)
 else
 (Z7x (x.2.2.2.2,(0:Int),(((List.length x.2.1):Nat):Int))).bind fun r13 =>
 bif (Bool.not r13) then
 some (3:Int)
 else
 some (0:Int)
 else
 bif (x.2.2.1 == (((((((((((((0:Nat)+(1:Nat))+(1:Nat))+(1:Nat))+(1:Nat))+(1:Nat))+(1:Nat))+(1:Nat))+(1:Nat))+(1:Nat))+(1:Nat)):Nat):Int)) then
 (Z8j (x.1,x.2.1)).bind fun r11 =>
 (Z7x (x.2.2.2.1,(0:Int),(IntKind.wrap .i64 (r11 - (1:Int))))).bind fun r12 =>
 bif (Bool.not r12) then
 some (3:Int)
 else
 (Z7x (x.2.2.2.2,(0:Int),(((List.length x.2.1):Nat):Int))).bind fun r13 =>
 bif (Bool.not r13) then
 some (3:Int)
 else
 some (0:Int)
 else
 bif (x.2.2.1 == ((((((((((((((0:Nat)+(1:Nat))+(1:Nat))+(1:Nat))+(1:Nat))+(1:Nat))+(1:Nat))+(1:Nat))+(1:Nat))+(1:Nat))+(1:Nat))+(1:Nat)):Nat):Int)) then
 (Z8j (x.1,x.2.1)).bind fun r11 =>
 (Z7x (x.2.2.2.1,(0:Int),(IntKind.wrap .i64 (r11 - (1:Int))))).bind fun r12 =>
 bif (Bool.not r12) then
 some (3:Int)
 else
 (Z7x (x.2.2.2.2,(0:Int),(((List.length x.2.1):Nat):Int))).bind fun r13 =>
 bif (Bool.not r13) then
 some (3:Int)
 else
 some (0:Int)
 else
 bif (x.2.2.1 == (((((((((((((((0:Nat)+(1:Nat))+(1:Nat))+(1:Nat))+(1:Nat))+(1:Nat))+(1:Nat))+(1:Nat))+(1:Nat))+(1:Nat))+(1:Nat))+(1:Nat))+(1:Nat)):Nat):Int)) then
 (Z89 (x.1,x.2.1)).bind fun r11 =>
 (Z7x (x.2.2.2.1,(0:Int),(IntKind.wrap .i64 (r11 - (1:Int))))).bind fun r12 =>
 bif (Bool.not r12) then
 some (3:Int)
 else
 (Z7x (x.2.2.2.2,(0:Int),(((List.length x.2.1):Nat):Int))).bind fun r13 =>
 bif (Bool.not r13) then
 some (3:Int)
 else
 some (0:Int)
 else
 bif (x.2.2.1 == ((((((((((((((((0:Nat)+(1:Nat))+(1:Nat))+(1:Nat))+(1:Nat))+(1:Nat))+(1:Nat))+(1:Nat))+(1:Nat))+(1:Nat))+(1:Nat))+(1:Nat))+(1:Nat))+(1:Nat)):Nat):Int)) then
 (Z89 (x.1,x.2.1)).bind fun r11 =>
 (Z7x (x.2.2.2.1,(0:Int),(IntKind.wrap .i64 (r11 - (1:Int))))).bind fun r12 =>
 bif (Bool.not r12) then
 some (3:Int)
 else
 (Z7x (x.2.2.2.2,(0:Int),(((List.length x.2.1):Nat):Int))).bind fun r13 =>
 bif (Bool.not r13) then
 some (3:Int)
 else
 some (0:Int)
 else
 none
 else
 (Z87 ()).bind fun r10 =>
 bif (x.2.2.1 == (((0:Nat):Nat):Int)) then
 (Z83 (x.1,x.2.1)).bind fun r11 =>
 (Z7x (x.2.2.2.1,(0:Int),(IntKind.wrap .i64 (r11 - (1:Int))))).bind fun r12 =>
 bif (Bool.not r12) then
 some (3:Int)
 else
 (Z7x (x.2.2.2.2,(0:Int),(0:Int))).bind fun r13 =>
 bif (Bool.not r13) then
 some (3:Int)
 else
 some (0:Int)
 else
 bif (x.2.2.1 == ((((0:Nat)+(1:Nat)):Nat):Int)) then
 (Z7v (x.1,x.2.1)).bind fun r11 =>
 (Z7x (x.2.2.2.1,(0:Int),(IntKind.wrap .i64 (r11 - (1:Int))))).bind fun r12 =>
 bif (Bool.not r12) then
 some (3:Int)
 else
 (Z7x (x.2.2.2.2,(0:Int),(0:Int))).bind fun r13 =>
 bif (Bool.not r13) then
 some (3:Int)
 else
 some (0:Int)
 else
 bif (x.2.2.1 == (((((0:Nat)+(1:Nat))+(1:Nat)):Nat):Int)) then
 (Z7v (x.1,x.2.1)).bind fun r11 =>
 (Z7x (x.2.2.2.1,(0:Int),(IntKind.wrap .i64 (r11 - (1:Int))))).bind fun r12 =>
 bif (Bool.not r12) then
 some (3:Int)
 else
 (Z7x (x.2.2.2.2,(0:Int),(0:Int))).bind fun r13 =>
 bif (Bool.not r13) then
 some (3:Int)
 else
 some (0:Int)
 else
 bif (x.2.2.1 == ((((((0:Nat)+(1:Nat))+(1:Nat))+(1:Nat)):Nat):Int)) then
 (Z7v (x.1,x.2.1)).bind fun r11 =>
 (Z7x (x.2.2.2.1,(0:Int),(IntKind.wrap .i64 (r11 - (1:Int))))).bind fun r12 =>
 bif (Bool.not r12) then
 some (3:Int)
 else
 (Z7x (x.2.2.2.2,(0:Int),(0:Int))).bind fun r13 =>
 bif (Bool.not r13) then
 some (3:Int)
 else
 some (0:Int)
 else
 bif (x.2.2.1 == (((((((0:Nat)+(1:Nat))+(1:Nat))+(1:Nat))+(1:Nat)):Nat):Int)) then
 (Z8b (x.1,x.2.1)).bind fun r11 =>
 (Z7x (x.2.2.2.1,(0:Int),(IntKind.wrap .i64 (r11 - (1:Int))))).bind fun r12 =>
 bif (Bool.not r12) then
 some (3:Int)
 else
 (Z7x (x.2.2.2.2,(0:Int),(0:Int))).bind fun r13 =>
 bif (Bool.not r13) then
 some (3:Int)
 else
 some (0:Int)
 else
 bif (x.2.2.1 == ((((((((0:Nat)+(1:Nat))+(1:Nat))+(1:Nat))+(1:Nat))+(1:Nat)):Nat):Int)) then
 (Z81 (x.1,x.2.1)).bind fun r11 =>
 (Z7x (x.2.2.2.1,(0:Int),(IntKind.wrap .i64 (r11 - (1:Int))))).bind fun r12 =>
 bif (Bool.not r12) then
 some (3:Int)
 else
 (Z7x (x.2.2.2.2,(0:Int),(0:Int))).bind fun r13 =>
 bif (Bool.not r13) then
 some (3:Int)
 else
 some (0:Int)
 else
 bif (x.2.2.1 == (((((((((0:Nat)+(1:Nat))+(1:Nat))+(1:Nat))+(1:Nat))+(1:Nat))+(1:Nat)):Nat):Int)) then
 (Z81 (x.1,x.2.1)).bind fun r11 =>
 (Z7x (x.2.2.2.1,(0:Int),(IntKind.wrap .i64 (r11 - (1:Int))))).bind fun r12 =>
 bif (Bool.not r12) then
 some (3:Int)
 else
 (Z7x (x.2.2.2.2,(0:Int),(0:Int))).bind fun r13 =>
 bif (Bool.not r13) then
 some (3:Int)
 else
 some (0:Int)
 else
 bif (x.2.2.1 == ((((((((((0:Nat)+(1:Nat))+(1:Nat))+(1:Nat))+(1:Nat))+(1:Nat))+(1:Nat))+(1:Nat)):Nat):Int)) then
 (Z85 (x.1,x.2.1)).bind fun r11 =>
 (Z7x (x.2.2.2.1,(0:Int),(IntKind.wrap .i64 (r11 - (1:Int))))).bind fun r12 =>
 bif (Bool.not r12) then
 some (3:Int)
 else
 (Z7x (x.2.2.2.2,(0:Int),(0:Int))).bind fun r13 =>
 bif (Bool.not r13) then
 some (3:Int)
 else
 some (0:Int)
 else
 bif (x.2.2.1 == (((((((((((0:Nat)+(1:Nat))+(1:Nat))+(1:Nat))+(1:Nat))+(1:Nat))+(1:Nat))+(1:Nat))+(1:Nat)):Nat):Int)) then
 (Z85 (x.1,x.2.1)).bind fun r11 =>
 (Z7x (x.2.2.2.1,(0:Int),(IntKind.wrap .i64 (r11 - (1:Int))))).bind fun r12 =>
 bif (Bool.not r12) then
 some (3:Int)
 else
 (Z7x (x.2.2.2.2,(0:Int),(0:Int))).bind fun r13 =>
 bif (Bool.not r13) then
 some (3:Int)
 else
 some (0:Int)
 else
 bif (x.2.2.1 == ((((((((((((0:Nat)+(1:Nat))+(1:Nat))+(1:Nat))+(1:Nat))+(1:Nat))+(1:Nat))+(1:Nat))+(1:Nat))+(1:Nat)):Nat):Int)) then
 (Z7t (x.1,x.2.1)).bind fun r11 =>
 (Z7x (x.2.2.2.1,(0:Int),(IntKind.wrap .i64 (r11 - (1:Int))))).bind fun r12 =>
 bif (Bool.not r12) then
 some (3:Int)
 else
 (Z7x (x.2.2.2.2,(0:Int),(0:Int))).bind fun r13 =>
 bif (Bool.not r13) then
 some (3:Int)
 else
 some (0:Int)
 else
 bif (x.2.2.1 == (((((((((((((0:Nat)+(1:Nat))+(1:Nat))+(1:Nat))+(1:Nat))+(1:Nat))+(1:Nat))+(1:Nat))+(1:Nat))+(1:Nat))+(1:Nat)):Nat):Int)) then
 (Z8j (x.1,x.2.1)).bind fun r11 =>
 (Z7x (x.2.2.2.1,(0:Int),(IntKind.wrap .i64 (r11 - (1:Int))))).bind fun r12 =>
 bif (Bool.not r12) then
 some (3:Int)
 else
 (Z7x (x.2.2.2.2,(0:Int),(0:Int))).bind fun r13 =>
 bif (Bool.not r13) then
 some (3:Int)
 else
 some (0:Int)
 else
 bif (x.2.2.1 == ((((((((((((((0:Nat)+(1:Nat))+(1:Nat))+(1:Nat))+(1:Nat))+(1:Nat))+(1:Nat))+(1:Nat))+(1:Nat))+(1:Nat))+(1:Nat))+(1:Nat)):Nat):Int)) then
 (Z8j (x.1,x.2.1)).bind fun r11 =>
 (Z7x (x.2.2.2.1,(0:Int),(IntKind.wrap .i64 (r11 - (1:Int))))).bind fun r12 =>
 bif (Bool.not r12) then
 some (3:Int)
 else
 (Z7x (x.2.2.2.2,(0:Int),(0:Int))).bind fun r13 =>
 bif (Bool.not r13) then
 some (3:Int)
 else
 some (0:Int)
 else
 bif (x.2.2.1 == (((((((((((((((0:Nat)+(1:Nat))+(1:Nat))+(1:Nat))+(1:Nat))+(1:Nat))+(1:Nat))+(1:Nat))+(1:Nat))+(1:Nat))+(1:Nat))+(1:Nat))+(1:Nat)):Nat):Int)) then
 (Z89 (x.1,x.2.1)).bind fun r11 =>
 (Z7x (x.2.2.2.1,(0:Int),(IntKind.wrap .i64 (r11 - (1:Int))))).bind fun r12 =>
 bif (Bool.not r12) then
 some (3:Int)
 else
 (Z7x (x.2.2.2.2,(0:Int),(0:Int))).bind fun r13 =>
 bif (Bool.not r13) then
 some (3:Int)
 else
 some (0:Int)
 else
 bif (x.2.2.1 == ((((((((((((((((0:Nat)+(1:Nat))+(1:Nat))+(1:Nat))+(1:Nat))+(1:Nat))+(1:Nat))+(1:Nat))+(1:Nat))+(1:Nat))+(1:Nat))+(1:Nat))+(1:Nat))+(1:Nat)):Nat):Int)) then
 (Z89 (x.1,x.2.1)).bind fun r11 =>
 (Z7x (x.2.2.2.1,(0:Int),(IntKind.wrap .i64 (r11 - (1:Int))))).bind fun r12 =>
 bif (Bool.not r12) then
 some (3:Int)
 else
 (Z7x (x.2.2.2.2,(0:Int),(0:Int))).bind fun r13 =>
 bif (Bool.not r13) then
 some (3:Int)
 else
 some (0:Int)
 else
 none
abbrev Z15c:=Spec.shp Zue Zzv Z7z
def Zkl:Ctx:={ tb:=mkTb T2.tbl,fx:=[(191,[],Z15b),(195,[],Z15g),(223,[],Z15e),(224,[],Z15a),(225,[],Z15i),(226,[],Z15d),(227,[],Z15f),(228,[],Z159),(229,[],Z15m),(230,[],Z15h)],sum:=[],nt:=37,pin:=0,nr:=true,ys:=[] }
theorem Z80:Sound Tryz.prog 155 (Z15c) :=
 Sound.shp (C:=Zkl) (fn:=Tryz.f155) (by kernel_rfl) (c:=bodyOf Tryz.f155) (by kernel_rfl) (by decide) (ctxOK mixed tbl_ok rfl ⟨Z7y,Z88,Z84,Z7w,Z8c,Z82,Z86,Z7u,Z8k,Z8a,trivial⟩ trivial) (SumOK.of trivial) (by kernel_rfl) Zue Zzv rfl (by decide) (by decide) rfl (by decide) rfl Z7z (fun x=>by kernel_rfl)
abbrev Zq0:Shape:={ sl:=sl_9,bl:=bl_0,ts:=ts_7,pin:=0 }
abbrev Zo1:List (ETag × Shape):=[(.ret,{ sl:=sl_10,bl:=[],ts:=ts_0,pin:=0 }),(.exit 2,{ sl:=sl_11,bl:=bl_0,ts:=ts_8,pin:=0 })]
def Ze5 (x:T56):Option (T56 ⊕ (T4 ⊕ T54)) :=
 bif (decide (x.2.2.2.2.2.2.2.1 < x.2.2.2.2.2.2.1)) then
 bif (inb x.2.2.2.2.2.2.2.1 (List.length x.2.2.2.2.2.1)) then
 (Z7z (x.2.2.2.2.2.2.2.2,x.2.1,(getAt ((0:Int),(0:Int),(0:Int)) x.2.2.2.2.2.1 (toN x.2.2.2.2.2.2.2.1)))).bind fun r8 =>
 bif (r8 != (0:Int)) then
 some (.inr (.inl (x.1,x.2.2.2.2.2.2.2.1,r8)))
 else
 some (.inl (x.1,x.2.1,x.2.2.1,x.2.2.2.1,x.2.2.2.2.1,x.2.2.2.2.2.1,x.2.2.2.2.2.2.1,(IntKind.wrap .i64 (x.2.2.2.2.2.2.2.1+(1:Int))),x.2.2.2.2.2.2.2.2))
 else
 none
 else
 some (.inr (.inr (x.2.2.1,x.2.2.2.1,x.2.2.2.2.1,x.2.2.2.2.2.2.2.2)))
def Zkg:Ctx:={ tb:=mkTb T2.tbl,fx:=[(154,[],Z15j),(155,[],Z15c)],sum:=[],nt:=51,pin:=0,nr:=true,ys:=[] }
theorem Ze6:CSound Tryz.prog ⟨51,0,true⟩ (.loop (loopOf 11 Tryz.f92)) (Yat Zq0 Zo1 (loop Ze5)) :=
 Y89 (C:=Zkg) (ctxOK mixed tbl_ok rfl ⟨Z8i,Z80,trivial⟩ trivial) (SumOK.of trivial) Zq0 Zo1 rfl rfl Ze5 (fun x=>by kernel_rfl)
abbrev Zq1:Shape:={ sl:=sl_11,bl:=bl_0,ts:=ts_8,pin:=0 }
abbrev Zo2:List (ETag × Shape):=[(.ret,{ sl:=sl_10,bl:=[],ts:=ts_0,pin:=0 }),(.exit 0,{ sl:=[],bl:=[],ts:=[],pin:=0 })]
def Ze7 (x:T54):Option (T54 ⊕ (T4 ⊕ Unit)) :=
 bif (decide (x.2.2.1 < x.2.1)) then
 bif (inb x.2.2.1 (List.length x.1)) then
 bif (decide ((((List.length (getAt ([]:List T7) x.1 (toN x.2.2.1))):Nat):Int) > (24:Int))) then
 some (.inr (.inl (x.2.2.1,(Int.negSucc 0),(2:Int))))
 else
 (loop Ze5 (x.2.2.1,(getAt ([]:List T7) x.1 (toN x.2.2.1)),x.1,x.2.1,x.2.2.1,(getAt ([]:List T7) x.1 (toN x.2.2.1)),(((List.length (getAt ([]:List T7) x.1 (toN x.2.2.1))):Nat):Int),(0:Int),x.2.2.2)).bind fun r7 =>
 match r7 with
 | .inl y8 =>
 some (.inr (.inl (y8.1,y8.2.1,y8.2.2)))
 | .inr y8 =>
 some (.inl (y8.1,y8.2.1,(IntKind.wrap .i64 (y8.2.2.1+(1:Int))),y8.2.2.2))
 else
 none
 else
 some (.inr (.inr ()))
def Zkh:Ctx:={ tb:=mkTb T2.tbl,fx:=[(154,[],Z15j),(155,[],Z15c)],sum:=[(0,11,Yat Zq0 Zo1 (loop Ze5))],nt:=51,pin:=0,nr:=true,ys:=[] }
theorem Ze8:CSound Tryz.prog ⟨51,0,true⟩ (.loop (loopOf 6 Tryz.f92)) (Yat Zq1 Zo2 (loop Ze7)) :=
 Y89 (C:=Zkh) (ctxOK mixed tbl_ok rfl ⟨Z8i,Z80,trivial⟩ trivial) (SumOK.of ⟨(Yav (d:=.loop (loopOf 11 Tryz.f92)) (by kernel_rfl) Ze6),trivial⟩) Zq1 Zo2 rfl rfl Ze7 (fun x=>by kernel_rfl)
abbrev Zua:Shape:={ sl:=sl_6,bl:=[],ts:=[y39],pin:=0 }
abbrev Zzr:Shape:={ sl:=sl_0,bl:=[],ts:=ts_0,pin:=0 }
def Z7r (x:(T47)):Option T4 :=
 (Z8d x).bind fun r5 =>
 bif (r5.2 != (0:Int)) then
 some ((Int.negSucc 0),r5.1,r5.2)
 else
 (loop Ze7 (x.2.2.2.2.2,(((List.length x.2.2.2.2.2):Nat):Int),(0:Int),x)).bind fun r6 =>
 match r6 with
 | .inl y7 =>
 some (y7.1,y7.2.1,y7.2.2)
 | .inr y7 =>
 some ((Int.negSucc 0),(Int.negSucc 0),(0:Int))
abbrev Z158:=Spec.shp Zua Zzr Z7r
def Zkf:Ctx:={ tb:=mkTb T2.tbl,fx:=[(154,[],Z15j),(155,[],Z15c)],sum:=[(0,11,Yat Zq0 Zo1 (loop Ze5)),(0,6,Yat Zq1 Zo2 (loop Ze7))],nt:=51,pin:=0,nr:=true,ys:=[] }
theorem Z7s:Sound Tryz.prog 92 (Z158) :=
 Sound.shp (C:=Zkf) (fn:=Tryz.f92) (by kernel_rfl) (c:=bodyOf Tryz.f92) (by kernel_rfl) (by decide) (ctxOK mixed tbl_ok rfl ⟨Z8i,Z80,trivial⟩ trivial) (SumOK.of ⟨(Yav (d:=.loop (loopOf 11 Tryz.f92)) (by kernel_rfl) Ze6),(Yav (d:=.loop (loopOf 6 Tryz.f92)) (by kernel_rfl) Ze8),trivial⟩) (by kernel_rfl) Zua Zzr rfl (by decide) (by decide) rfl (by decide) rfl Z7r (fun x=>by kernel_rfl)
abbrev Zu9:Shape:={ sl:=sl_6,bl:=[],ts:=[y39],pin:=0 }
abbrev Zzq:Shape:={ sl:=sl_1,bl:=[],ts:=ts_1,pin:=0 }
def Z7p (x:(T47)):Option (Bool) :=
 (Z7r x).bind fun r4 =>
 some (r4.2.2 == (0:Int))
abbrev Z157:=Spec.shp Zu9 Zzq Z7p
def Zke:Ctx:={ tb:=mkTb T2.tbl,fx:=[(92,[],Z158)],sum:=[],nt:=14,pin:=0,nr:=true,ys:=[] }
theorem Z7q:Sound Tryz.prog 38 (Z157) :=
 Sound.shp (C:=Zke) (fn:=Tryz.f38) (by kernel_rfl) (c:=bodyOf Tryz.f38) (by kernel_rfl) (by decide) (ctxOK mixed tbl_ok rfl ⟨Z7s,trivial⟩ trivial) (SumOK.of trivial) (by kernel_rfl) Zu9 Zzq rfl (by decide) (by decide) rfl (by decide) rfl Z7p (fun x=>by kernel_rfl)
abbrev Zur:Shape:={ sl:=sl_2,bl:=[],ts:=ts_2,pin:=0 }
abbrev Z108:Shape:={ sl:=sl_12,bl:=[],ts:=[y21,(.int .i64)],pin:=0 }
def Z8p (x:(Int)):Option (T16 × Int) :=
 bif (decide (x < (0:Int))) then
 some (((0:Int),(0:Int),([]:List Int),(0:Int)),(2:Int))
 else
 bif (decide (x > (8:Int))) then
 some (((0:Int),(0:Int),([]:List Int),(0:Int)),(2:Int))
 else
 bif (mkOK x x) then
 some ((x,(0:Int),(List.replicate (toN x) (0:Int)),(0:Int)),(0:Int))
 else
 none
abbrev Z15o:=Spec.shp Zur Z108 Z8p
def Zkz:Ctx:={ tb:=mkTb T2.tbl,fx:=[],sum:=[],nt:=15,pin:=0,nr:=true,ys:=[] }
theorem Z8q:Sound Tryz.prog 93 (Z15o) :=
 Sound.shp (C:=Zkz) (fn:=Tryz.f93) (by kernel_rfl) (c:=bodyOf Tryz.f93) (by kernel_rfl) (by decide) (ctxOK mixed tbl_ok rfl trivial trivial) (SumOK.of trivial) (by kernel_rfl) Zur Z108 rfl (by decide) (by decide) rfl (by decide) rfl Z8p (fun x=>by kernel_rfl)
abbrev Zqi:Shape:={ sl:=sl_2,bl:=[],ts:=ts_2,pin:=0 }
abbrev Zvz:Shape:={ sl:=sl_13,bl:=[],ts:=[y40,(.int .i64)],pin:=0 }
def Z4 (x:(Int)):Option T46 :=
 bif (decide (x < (Int.negSucc 0))) then
 some (((0:Int),false,((0:Int),(0:Int),([]:List Int),(0:Int)),(0:Int),(0:Int),([]:List T7),([]:List T7)),(2:Int))
 else
 bif (decide (x > (3:Int))) then
 some (((0:Int),false,((0:Int),(0:Int),([]:List Int),(0:Int)),(0:Int),(0:Int),([]:List T7),([]:List T7)),(2:Int))
 else
 (Z8p (Max.max x (0:Int))).bind fun r6 =>
 some ((x,false,r6.1,(0:Int),(0:Int),([]:List T7),([]:List T7)),r6.2)
abbrev Z11g:=Spec.shp Zqi Zvz Z4
def Zf3:Ctx:={ tb:=mkTb T2.tbl,fx:=[(93,[],Z15o)],sum:=[],nt:=23,pin:=0,nr:=true,ys:=[] }
theorem Z5:Sound Tryz.prog 39 (Z11g) :=
 Sound.shp (C:=Zf3) (fn:=Tryz.f39) (by kernel_rfl) (c:=bodyOf Tryz.f39) (by kernel_rfl) (by decide) (ctxOK mixed tbl_ok rfl ⟨Z8q,trivial⟩ trivial) (SumOK.of trivial) (by kernel_rfl) Zqi Zvz rfl (by decide) (by decide) rfl (by decide) rfl Z4 (fun x=>by kernel_rfl)
abbrev Zoj:Shape:={ sl:=[(2,(.ptr 0 [])),(5,(.ptr 1 [])),(26,(.hole y0)),(27,(.hole (.int .i64))),(28,(.hole (.int .i64)))],bl:=bl_1,ts:=[y0,(.int .i64),(.int .i64),(.int .i64),(.int .i64),(.int .i64),y4,y39,y4,y18,y41,y19,y26],pin:=0 }
abbrev Zmk:List (ETag × Shape):=[(.exit 0,{ sl:=[(2,(.ptr 0 [])),(5,(.ptr 1 []))],bl:=bl_1,ts:=ts_9,pin:=0 })]
def Zb7 (x:(List Int × Int × Int × Int × Int × Int × (Int × Int) × T47 × (Int × Int) × List (T17) × List T43 × List (T18) × List T29)):Option ((List Int × Int × Int × Int × Int × Int × (Int × Int) × T47 × (Int × Int) × List (T17) × List T43 × List (T18) × List T29) ⊕ (Int × Int × Int × (Int × Int) × T47 × (Int × Int) × List (T17) × List T43 × List (T18) × List T29)) :=
 bif (decide (x.2.2.1 < x.2.1)) then
 bif (inb x.2.2.1 (List.length x.1)) then
 (Z4 (getAt (0:Int) x.1 (toN x.2.2.1))).bind fun r5 =>
 bif (fits ((List.length x.2.2.2.2.2.2.2.2.2.2.1)+(List.length (r5.1 :: ([]:List (Int × T41)))))) then
 some (.inl (x.1,x.2.1,(IntKind.wrap .i64 (x.2.2.1+(1:Int))),x.2.2.2.1,x.2.2.2.2.1,x.2.2.2.2.2.1,x.2.2.2.2.2.2.1,x.2.2.2.2.2.2.2.1,x.2.2.2.2.2.2.2.2.1,x.2.2.2.2.2.2.2.2.2.1,(x.2.2.2.2.2.2.2.2.2.2.1++(r5.1 :: ([]:List (Int × T41)))),x.2.2.2.2.2.2.2.2.2.2.2.1,x.2.2.2.2.2.2.2.2.2.2.2.2))
 else
 none
 else
 none
 else
 some (.inr (x.2.2.2.1,x.2.2.2.2.1,x.2.2.2.2.2.1,x.2.2.2.2.2.2.1,x.2.2.2.2.2.2.2.1,x.2.2.2.2.2.2.2.2.1,x.2.2.2.2.2.2.2.2.2.1,x.2.2.2.2.2.2.2.2.2.2.1,x.2.2.2.2.2.2.2.2.2.2.2.1,x.2.2.2.2.2.2.2.2.2.2.2.2))
def Zfp:Ctx:={ tb:=mkTb T2.tbl,fx:=[(38,[],Z157),(39,[],Z11g)],sum:=[],nt:=61,pin:=0,nr:=true,ys:=[] }
theorem Zb8:CSound Tryz.prog ⟨61,0,true⟩ (.loop (loopOf 6 Tryz.f14)) (Yat Zoj Zmk (loop Zb7)) :=
 Y89 (C:=Zfp) (ctxOK mixed tbl_ok rfl ⟨Z7q,Z5,trivial⟩ trivial) (SumOK.of trivial) Zoj Zmk rfl rfl Zb7 (fun x=>by kernel_rfl)
abbrev Zrz:Shape:={ sl:=[(0,(.ptr 0 [])),(1,(.hole (.int .i64))),(2,(.hole (.int .i64))),(3,(.hole (.int .i64))),(4,(.hole (.int .i64))),(5,(.hole (.int .i64)))],bl:=bl_2,ts:=[(.int .i64),(.int .i64),(.int .i64),(.int .i64),(.int .i64),y39,y4,y18,y41,y19,y26,y27],pin:=0 }
abbrev Zxg:Shape:={ sl:=sl_2,bl:=bl_2,ts:=ts_10,pin:=1 }
def Z35 (x:(Int × Int × Int × Int × Int × T47 × (Int × Int) × List (T17) × List T43 × List (T18) × List T29 × List (T20))):Option T58 :=
 bif (fits ((List.length x.2.2.2.2.2.2.2.2.2.2.2)+(List.length ((x.1,x.2.1,x.2.2.1,x.2.2.2.1,x.2.2.2.2.1) :: ([]:List T20))))) then
 some ((IntKind.wrap .i64 ((IntKind.wrap .i64 (x.2.2.2.2.2.2.1.1+(1:Int))) - (1:Int))),x.2.2.2.2.2.1,((IntKind.wrap .i64 (x.2.2.2.2.2.2.1.1+(1:Int))),x.2.2.2.2.2.2.1.2),x.2.2.2.2.2.2.2.1,x.2.2.2.2.2.2.2.2.1,x.2.2.2.2.2.2.2.2.2.1,x.2.2.2.2.2.2.2.2.2.2.1,(x.2.2.2.2.2.2.2.2.2.2.2++((x.1,x.2.1,x.2.2.1,x.2.2.2.1,x.2.2.2.2.1) :: ([]:List T20))))
 else
 none
abbrev Z12x:=Spec.shp Zrz Zxg Z35
def Zgv:Ctx:={ tb:=mkTb T2.tbl,fx:=[],sum:=[],nt:=43,pin:=1,nr:=true,ys:=[] }
theorem Z36:Sound Tryz.prog 40 (Z12x) :=
 Sound.shp (C:=Zgv) (fn:=Tryz.f40) (by kernel_rfl) (c:=bodyOf Tryz.f40) (by kernel_rfl) (by decide) (ctxOK mixed tbl_ok rfl trivial trivial) (SumOK.of trivial) (by kernel_rfl) Zrz Zxg rfl (by decide) (by decide) rfl (by decide) rfl Z35 (fun x=>by kernel_rfl)
abbrev Zrh:Shape:={ sl:=sl_14,bl:=bl_2,ts:=[(.int .i64),(.int .i64),y39,y4,y18,y41,y19,y26,y27],pin:=0 }
abbrev Zwy:Shape:={ sl:=[],bl:=bl_2,ts:=ts_11,pin:=1 }
def Z24 (x:(Int × Int × T47 × (Int × Int) × List (T17) × List T43 × List (T18) × List T29 × List (T20))):Option T57 :=
 bif (inb x.1 (List.length x.2.2.2.2.1)) then
 bif (inb (getAt ((0:Int),(0:Int),(0:Int),false) (List.set (List.set x.2.2.2.2.1 (toN x.1) ((getAt ((0:Int),(0:Int),(0:Int),false) x.2.2.2.2.1 (toN x.1)).1,x.2.1,(getAt ((0:Int),(0:Int),(0:Int),false) x.2.2.2.2.1 (toN x.1)).2.2)) (toN x.1) ((getAt ((0:Int),(0:Int),(0:Int),false) (List.set x.2.2.2.2.1 (toN x.1) ((getAt ((0:Int),(0:Int),(0:Int),false) x.2.2.2.2.1 (toN x.1)).1,x.2.1,(getAt ((0:Int),(0:Int),(0:Int),false) x.2.2.2.2.1 (toN x.1)).2.2)) (toN x.1)).1,(getAt ((0:Int),(0:Int),(0:Int),false) (List.set x.2.2.2.2.1 (toN x.1) ((getAt ((0:Int),(0:Int),(0:Int),false) x.2.2.2.2.1 (toN x.1)).1,x.2.1,(getAt ((0:Int),(0:Int),(0:Int),false) x.2.2.2.2.1 (toN x.1)).2.2)) (toN x.1)).2.1,(0:Int),(getAt ((0:Int),(0:Int),(0:Int),false) (List.set x.2.2.2.2.1 (toN x.1) ((getAt ((0:Int),(0:Int),(0:Int),false) x.2.2.2.2.1 (toN x.1)).1,x.2.1,(getAt ((0:Int),(0:Int),(0:Int),false) x.2.2.2.2.1 (toN x.1)).2.2)) (toN x.1)).2.2.2)) (toN x.1)).1 (List.length x.2.2.1.2.2.2.2.2)) then
 bif (x.2.1 == (((List.length (getAt ([]:List T7) x.2.2.1.2.2.2.2.2 (toN (getAt ((0:Int),(0:Int),(0:Int),false) (List.set (List.set x.2.2.2.2.1 (toN x.1) ((getAt ((0:Int),(0:Int),(0:Int),false) x.2.2.2.2.1 (toN x.1)).1,x.2.1,(getAt ((0:Int),(0:Int),(0:Int),false) x.2.2.2.2.1 (toN x.1)).2.2)) (toN x.1) ((getAt ((0:Int),(0:Int),(0:Int),false) (List.set x.2.2.2.2.1 (toN x.1) ((getAt ((0:Int),(0:Int),(0:Int),false) x.2.2.2.2.1 (toN x.1)).1,x.2.1,(getAt ((0:Int),(0:Int),(0:Int),false) x.2.2.2.2.1 (toN x.1)).2.2)) (toN x.1)).1,(getAt ((0:Int),(0:Int),(0:Int),false) (List.set x.2.2.2.2.1 (toN x.1) ((getAt ((0:Int),(0:Int),(0:Int),false) x.2.2.2.2.1 (toN x.1)).1,x.2.1,(getAt ((0:Int),(0:Int),(0:Int),false) x.2.2.2.2.1 (toN x.1)).2.2)) (toN x.1)).2.1,(0:Int),(getAt ((0:Int),(0:Int),(0:Int),false) (List.set x.2.2.2.2.1 (toN x.1) ((getAt ((0:Int),(0:Int),(0:Int),false) x.2.2.2.2.1 (toN x.1)).1,x.2.1,(getAt ((0:Int),(0:Int),(0:Int),false) x.2.2.2.2.1 (toN x.1)).2.2)) (toN x.1)).2.2.2)) (toN x.1)).1))):Nat):Int)) then
 some (x.2.2.1,x.2.2.2.1,(List.set (List.set (List.set x.2.2.2.2.1 (toN x.1) ((getAt ((0:Int),(0:Int),(0:Int),false) x.2.2.2.2.1 (toN x.1)).1,x.2.1,(getAt ((0:Int),(0:Int),(0:Int),false) x.2.2.2.2.1 (toN x.1)).2.2)) (toN x.1) ((getAt ((0:Int),(0:Int),(0:Int),false) (List.set x.2.2.2.2.1 (toN x.1) ((getAt ((0:Int),(0:Int),(0:Int),false) x.2.2.2.2.1 (toN x.1)).1,x.2.1,(getAt ((0:Int),(0:Int),(0:Int),false) x.2.2.2.2.1 (toN x.1)).2.2)) (toN x.1)).1,(getAt ((0:Int),(0:Int),(0:Int),false) (List.set x.2.2.2.2.1 (toN x.1) ((getAt ((0:Int),(0:Int),(0:Int),false) x.2.2.2.2.1 (toN x.1)).1,x.2.1,(getAt ((0:Int),(0:Int),(0:Int),false) x.2.2.2.2.1 (toN x.1)).2.2)) (toN x.1)).2.1,(0:Int),(getAt ((0:Int),(0:Int),(0:Int),false) (List.set x.2.2.2.2.1 (toN x.1) ((getAt ((0:Int),(0:Int),(0:Int),false) x.2.2.2.2.1 (toN x.1)).1,x.2.1,(getAt ((0:Int),(0:Int),(0:Int),false) x.2.2.2.2.1 (toN x.1)).2.2)) (toN x.1)).2.2.2)) (toN x.1) ((getAt ((0:Int),(0:Int),(0:Int),false) (List.set (List.set x.2.2.2.2.1 (toN x.1) ((getAt ((0:Int),(0:Int),(0:Int),false) x.2.2.2.2.1 (toN x.1)).1,x.2.1,(getAt ((0:Int),(0:Int),(0:Int),false) x.2.2.2.2.1 (toN x.1)).2.2)) (toN x.1) ((getAt ((0:Int),(0:Int),(0:Int),false) (List.set x.2.2.2.2.1 (toN x.1) ((getAt ((0:Int),(0:Int),(0:Int),false) x.2.2.2.2.1 (toN x.1)).1,x.2.1,(getAt ((0:Int),(0:Int),(0:Int),false) x.2.2.2.2.1 (toN x.1)).2.2)) (toN x.1)).1,(getAt ((0:Int),(0:Int),(0:Int),false) (List.set x.2.2.2.2.1 (toN x.1) ((getAt ((0:Int),(0:Int),(0:Int),false) x.2.2.2.2.1 (toN x.1)).1,x.2.1,(getAt ((0:Int),(0:Int),(0:Int),false) x.2.2.2.2.1 (toN x.1)).2.2)) (toN x.1)).2.1,(0:Int),(getAt ((0:Int),(0:Int),(0:Int),false) (List.set x.2.2.2.2.1 (toN x.1) ((getAt ((0:Int),(0:Int),(0:Int),false) x.2.2.2.2.1 (toN x.1)).1,x.2.1,(getAt ((0:Int),(0:Int),(0:Int),false) x.2.2.2.2.1 (toN x.1)).2.2)) (toN x.1)).2.2.2)) (toN x.1)).1,(getAt ((0:Int),(0:Int),(0:Int),false) (List.set (List.set x.2.2.2.2.1 (toN x.1) ((getAt ((0:Int),(0:Int),(0:Int),false) x.2.2.2.2.1 (toN x.1)).1,x.2.1,(getAt ((0:Int),(0:Int),(0:Int),false) x.2.2.2.2.1 (toN x.1)).2.2)) (toN x.1) ((getAt ((0:Int),(0:Int),(0:Int),false) (List.set x.2.2.2.2.1 (toN x.1) ((getAt ((0:Int),(0:Int),(0:Int),false) x.2.2.2.2.1 (toN x.1)).1,x.2.1,(getAt ((0:Int),(0:Int),(0:Int),false) x.2.2.2.2.1 (toN x.1)).2.2)) (toN x.1)).1,(getAt ((0:Int),(0:Int),(0:Int),false) (List.set x.2.2.2.2.1 (toN x.1) ((getAt ((0:Int),(0:Int),(0:Int),false) x.2.2.2.2.1 (toN x.1)).1,x.2.1,(getAt ((0:Int),(0:Int),(0:Int),false) x.2.2.2.2.1 (toN x.1)).2.2)) (toN x.1)).2.1,(0:Int),(getAt ((0:Int),(0:Int),(0:Int),false) (List.set x.2.2.2.2.1 (toN x.1) ((getAt ((0:Int),(0:Int),(0:Int),false) x.2.2.2.2.1 (toN x.1)).1,x.2.1,(getAt ((0:Int),(0:Int),(0:Int),false) x.2.2.2.2.1 (toN x.1)).2.2)) (toN x.1)).2.2.2)) (toN x.1)).2.1,(2:Int),(getAt ((0:Int),(0:Int),(0:Int),false) (List.set (List.set x.2.2.2.2.1 (toN x.1) ((getAt ((0:Int),(0:Int),(0:Int),false) x.2.2.2.2.1 (toN x.1)).1,x.2.1,(getAt ((0:Int),(0:Int),(0:Int),false) x.2.2.2.2.1 (toN x.1)).2.2)) (toN x.1) ((getAt ((0:Int),(0:Int),(0:Int),false) (List.set x.2.2.2.2.1 (toN x.1) ((getAt ((0:Int),(0:Int),(0:Int),false) x.2.2.2.2.1 (toN x.1)).1,x.2.1,(getAt ((0:Int),(0:Int),(0:Int),false) x.2.2.2.2.1 (toN x.1)).2.2)) (toN x.1)).1,(getAt ((0:Int),(0:Int),(0:Int),false) (List.set x.2.2.2.2.1 (toN x.1) ((getAt ((0:Int),(0:Int),(0:Int),false) x.2.2.2.2.1 (toN x.1)).1,x.2.1,(getAt ((0:Int),(0:Int),(0:Int),false) x.2.2.2.2.1 (toN x.1)).2.2)) (toN x.1)).2.1,(0:Int),(getAt ((0:Int),(0:Int),(0:Int),false) (List.set x.2.2.2.2.1 (toN x.1) ((getAt ((0:Int),(0:Int),(0:Int),false) x.2.2.2.2.1 (toN x.1)).1,x.2.1,(getAt ((0:Int),(0:Int),(0:Int),false) x.2.2.2.2.1 (toN x.1)).2.2)) (toN x.1)).2.2.2)) (toN x.1)).2.2.2)),x.2.2.2.2.2.1,x.2.2.2.2.2.2.1,x.2.2.2.2.2.2.2.1,x.2.2.2.2.2.2.2.2)
 else
 some (x.2.2.1,x.2.2.2.1,(List.set (List.set x.2.2.2.2.1 (toN x.1) ((getAt ((0:Int),(0:Int),(0:Int),false) x.2.2.2.2.1 (toN x.1)).1,x.2.1,(getAt ((0:Int),(0:Int),(0:Int),false) x.2.2.2.2.1 (toN x.1)).2.2)) (toN x.1) ((getAt ((0:Int),(0:Int),(0:Int),false) (List.set x.2.2.2.2.1 (toN x.1) ((getAt ((0:Int),(0:Int),(0:Int),false) x.2.2.2.2.1 (toN x.1)).1,x.2.1,(getAt ((0:Int),(0:Int),(0:Int),false) x.2.2.2.2.1 (toN x.1)).2.2)) (toN x.1)).1,(getAt ((0:Int),(0:Int),(0:Int),false) (List.set x.2.2.2.2.1 (toN x.1) ((getAt ((0:Int),(0:Int),(0:Int),false) x.2.2.2.2.1 (toN x.1)).1,x.2.1,(getAt ((0:Int),(0:Int),(0:Int),false) x.2.2.2.2.1 (toN x.1)).2.2)) (toN x.1)).2.1,(0:Int),(getAt ((0:Int),(0:Int),(0:Int),false) (List.set x.2.2.2.2.1 (toN x.1) ((getAt ((0:Int),(0:Int),(0:Int),false) x.2.2.2.2.1 (toN x.1)).1,x.2.1,(getAt ((0:Int),(0:Int),(0:Int),false) x.2.2.2.2.1 (toN x.1)).2.2)) (toN x.1)).2.2.2)),x.2.2.2.2.2.1,x.2.2.2.2.2.2.1,x.2.2.2.2.2.2.2.1,x.2.2.2.2.2.2.2.2)
 else
 none
 else
 none
abbrev Z12f:=Spec.shp Zrh Zwy Z24
def Zgb:Ctx:={ tb:=mkTb T2.tbl,fx:=[],sum:=[],nt:=39,pin:=1,nr:=true,ys:=[] }
theorem Z25:Sound Tryz.prog 41 (Z12f) :=
 Sound.shp (C:=Zgb) (fn:=Tryz.f41) (by kernel_rfl) (c:=bodyOf Tryz.f41) (by kernel_rfl) (by decide) (ctxOK mixed tbl_ok rfl trivial trivial) (SumOK.of trivial) (by kernel_rfl) Zrh Zwy rfl (by decide) (by decide) rfl (by decide) rfl Z24 (fun x=>by kernel_rfl)
abbrev Zrw:Shape:={ sl:=[(0,(.hole y12)),(1,(.ptr 0 []))],bl:=bl_3,ts:=[y12,(.int .i64)],pin:=0 }
abbrev Zxd:Shape:={ sl:=sl_1,bl:=bl_3,ts:=[.bool,(.int .i64)],pin:=1 }
def Z2w (x:(T17 × Int)):Option T0 :=
 some ((x.1.2.2.1 == x.2),x.2)
abbrev Z12u:=Spec.shp Zrw Zxd Z2w
def Zgr:Ctx:={ tb:=mkTb T2.tbl,fx:=[],sum:=[],nt:=8,pin:=1,nr:=true,ys:=[] }
theorem Z2x:Sound Tryz.prog 96 (Z12u) :=
 Sound.shp (C:=Zgr) (fn:=Tryz.f96) (by kernel_rfl) (c:=bodyOf Tryz.f96) (by kernel_rfl) (by decide) (ctxOK mixed tbl_ok rfl trivial trivial) (SumOK.of trivial) (by kernel_rfl) Zrw Zxd rfl (by decide) (by decide) rfl (by decide) rfl Z2w (fun x=>by kernel_rfl)
theorem Z2y:Sound Tryz.prog 96 (Spec.shpR Zrw Zxd Z2w) :=
 Sound.shpR (fun x y h=>by have h:=Option.some.inj h; subst h; rfl) Z2x
abbrev Zq7:Shape:={ sl:=[(0,(.sl 0)),(1,(.fn 96 .nil (.cons (.ptr 1 []) .nil))),(7,(.hole (.int .i64))),(8,(.hole (.int .i64)))],bl:=bl_4,ts:=[(.int .i64),(.int .i64),y18,(.int .i64)],pin:=2 }
abbrev Zo8:List (ETag × Shape):=[(.ret,{ sl:=sl_3,bl:=bl_4,ts:=[(.int .i64),y18,(.int .i64)],pin:=2 }),(.exit 0,{ sl:=[],bl:=bl_4,ts:=[y18,(.int .i64)],pin:=2 })]
def Zej (x:(Int × Int × List (T17) × Int)):Option ((Int × Int × List (T17) × Int) ⊕ ((Int × List (T17) × Int) ⊕ (List (T17) × Int))) :=
 bif (decide (x.2.1 < x.1)) then
 bif (inb x.2.1 (List.length x.2.2.1)) then
 (Z2w ((getAt ((0:Int),(0:Int),(0:Int),false) x.2.2.1 (toN x.2.1)),x.2.2.2)).bind fun r12 =>
 bif r12.1 then
 some (.inr (.inl (x.2.1,x.2.2.1,x.2.2.2)))
 else
 some (.inl (x.1,(IntKind.wrap .i64 (x.2.1+(1:Int))),x.2.2.1,x.2.2.2))
 else
 none
 else
 some (.inr (.inr (x.2.2.1,x.2.2.2)))
def Zlt:Ctx:={ tb:=mkTb T2.tbl,fx:=[(96,[],Spec.shpR Zrw Zxd Z2w)],sum:=[],nt:=19,pin:=2,nr:=true,ys:=[] }
theorem Zek:CSound Tryz.prog ⟨19,2,true⟩ (.loop (loopOf 3 Tryz.f156)) (Yat Zq7 Zo8 (loop Zej)) :=
 Y89 (C:=Zlt) (ctxOK mixed tbl_ok rfl ⟨Z2y,trivial⟩ trivial) (SumOK.of trivial) Zq7 Zo8 rfl rfl Zej (fun x=>by kernel_rfl)
abbrev Zvg:Shape:={ sl:=[(0,(.sl 0)),(1,(.fn 96 .nil (.cons (.ptr 1 []) .nil)))],bl:=bl_4,ts:=[y18,(.int .i64)],pin:=0 }
abbrev Z10x:Shape:={ sl:=sl_2,bl:=bl_4,ts:=[(.int .i64),y18,(.int .i64)],pin:=2 }
def Za3 (x:(List (T17) × Int)):Option (Int × List (T17) × Int) :=
 (loop Zej ((((List.length x.1):Nat):Int),(0:Int),x.1,x.2)).bind fun r11 =>
 match r11 with
 | .inl y12 =>
 some (y12.1,y12.2.1,y12.2.2)
 | .inr y12 =>
 some ((Int.negSucc 0),y12.1,y12.2)
abbrev Z16d:=Spec.shp Zvg Z10x Za3
def Zls:Ctx:={ tb:=mkTb T2.tbl,fx:=[(96,[],Spec.shpR Zrw Zxd Z2w)],sum:=[(0,3,Yat Zq7 Zo8 (loop Zej))],nt:=19,pin:=2,nr:=true,ys:=[] }
theorem Za4:Sound Tryz.prog 156 (Z16d) :=
 Sound.shp (C:=Zls) (fn:=Tryz.f156) (by kernel_rfl) (c:=bodyOf Tryz.f156) (by kernel_rfl) (by decide) (ctxOK mixed tbl_ok rfl ⟨Z2y,trivial⟩ trivial) (SumOK.of ⟨(Yav (d:=.loop (loopOf 3 Tryz.f156)) (by kernel_rfl) Zek),trivial⟩) (by kernel_rfl) Zvg Z10x rfl (by decide) (by decide) rfl (by decide) rfl Za3 (fun x=>by kernel_rfl)
abbrev Zv7:Shape:={ sl:=[(0,(.sl 0)),(1,(.fn 96 .nil (.cons (.ptr 1 []) .nil)))],bl:=bl_4,ts:=[y18,(.int .i64)],pin:=0 }
abbrev Z10o:Shape:={ sl:=sl_1,bl:=bl_4,ts:=[.bool,y18,(.int .i64)],pin:=2 }
def Z9l (x:(List (T17) × Int)):Option (Bool × List (T17) × Int) :=
 (Za3 (x.1,x.2)).bind fun r10 =>
 some ((decide (r10.1 ≥ (0:Int))),r10.2.1,r10.2.2)
abbrev Z164:=Spec.shp Zv7 Z10o Z9l
def Zlg:Ctx:={ tb:=mkTb T2.tbl,fx:=[(156,[2000000,96],Z16d)],sum:=[],nt:=9,pin:=2,nr:=true,ys:=[] }
theorem Z9m:Sound Tryz.prog 95 (Z164) :=
 Sound.shp (C:=Zlg) (fn:=Tryz.f95) (by kernel_rfl) (c:=bodyOf Tryz.f95) (by kernel_rfl) (by decide) (ctxOK mixed tbl_ok rfl ⟨Za4,trivial⟩ trivial) (SumOK.of trivial) (by kernel_rfl) Zv7 Z10o rfl (by decide) (by decide) rfl (by decide) rfl Z9l (fun x=>by kernel_rfl)
abbrev Zrv:Shape:={ sl:=[(0,(.hole (.int .i64))),(1,(.ptr 0 []))],bl:=bl_5,ts:=ts_10,pin:=0 }
abbrev Zxc:Shape:={ sl:=sl_1,bl:=bl_5,ts:=[.bool,y39,y4,y18,y41,y19,y26,y27],pin:=2 }
def Z2v (x:T58):Option (Bool × T47 × (Int × Int) × List (T17) × List T43 × List (T18) × List T29 × List (T20)) :=
 (Z9l (x.2.2.2.1,x.1)).bind fun r9 =>
 some (r9.1,x.2.1,x.2.2.1,r9.2.1,x.2.2.2.2.1,x.2.2.2.2.2.1,x.2.2.2.2.2.2.1,x.2.2.2.2.2.2.2)
abbrev Z12t:=Spec.shp Zrv Zxc Z2v
def Zgq:Ctx:={ tb:=mkTb T2.tbl,fx:=[(95,[2000000,96],Z164)],sum:=[],nt:=11,pin:=2,nr:=true,ys:=[] }
theorem Z2z:Sound Tryz.prog 94 (Z12t) :=
 Sound.shp (C:=Zgq) (fn:=Tryz.f94) (by kernel_rfl) (c:=bodyOf Tryz.f94) (by kernel_rfl) (by decide) (ctxOK mixed tbl_ok rfl ⟨Z9m,trivial⟩ trivial) (SumOK.of trivial) (by kernel_rfl) Zrv Zxc rfl (by decide) (by decide) rfl (by decide) rfl Z2v (fun x=>by kernel_rfl)
abbrev Zru:Shape:={ sl:=sl_15,bl:=bl_2,ts:=ts_11,pin:=0 }
abbrev Zxb:Shape:={ sl:=[],bl:=bl_2,ts:=ts_11,pin:=1 }
def Z2u (x:T57):Option T57 :=
 bif (x.2.1.2 != (0:Int)) then
 some (x.1,x.2.1,x.2.2.1,x.2.2.2.1,x.2.2.2.2.1,x.2.2.2.2.2.1,x.2.2.2.2.2.2)
 else
 (Z2v ((0:Int),x.1,x.2.1,x.2.2.1,x.2.2.2.1,x.2.2.2.2.1,x.2.2.2.2.2.1,x.2.2.2.2.2.2)).bind fun r8 =>
 bif r8.1 then
 some (r8.2.1,r8.2.2.1,r8.2.2.2.1,r8.2.2.2.2.1,r8.2.2.2.2.2.1,r8.2.2.2.2.2.2.1,r8.2.2.2.2.2.2.2)
 else
 (Z2v ((1:Int),r8.2.1,r8.2.2.1,r8.2.2.2.1,r8.2.2.2.2.1,r8.2.2.2.2.2.1,r8.2.2.2.2.2.2.1,r8.2.2.2.2.2.2.2)).bind fun r9 =>
 bif r9.1 then
 some (r9.2.1,(r9.2.2.1.1,(2:Int)),r9.2.2.2.1,r9.2.2.2.2.1,r9.2.2.2.2.2.1,r9.2.2.2.2.2.2.1,r9.2.2.2.2.2.2.2)
 else
 some (r9.2.1,(r9.2.2.1.1,(1:Int)),r9.2.2.2.1,r9.2.2.2.2.1,r9.2.2.2.2.2.1,r9.2.2.2.2.2.2.1,r9.2.2.2.2.2.2.2)
abbrev Z12s:=Spec.shp Zru Zxb Z2u
def Zgp:Ctx:={ tb:=mkTb T2.tbl,fx:=[(94,[],Spec.thin (Z12t))],sum:=[],nt:=26,pin:=1,nr:=true,ys:=[] }
theorem Z30:Sound Tryz.prog 42 (Z12s) :=
 Sound.shp (C:=Zgp) (fn:=Tryz.f42) (by kernel_rfl) (c:=bodyOf Tryz.f42) (by kernel_rfl) (by decide) (ctxOK mixed tbl_ok rfl ⟨Z2z.thin,trivial⟩ trivial) (SumOK.of trivial) (by kernel_rfl) Zru Zxb rfl (by decide) (by decide) rfl (by decide) rfl Z2u (fun x=>by kernel_rfl)
abbrev Zr1:Shape:={ sl:=sl_6,bl:=[],ts:=[y39],pin:=0 }
abbrev Zwi:Shape:={ sl:=[(0,(.hole y45)),(1,(.hole y27)),(2,(.hole (.int .i64)))],bl:=[],ts:=[y45,y27,(.int .i64)],pin:=0 }
def Z18 (x:(T47)):Option ((T47 × T61) × List (T20) × Int) :=
 (Z7p x).bind fun r3 =>
 bif (Bool.not r3) then
 some (((([]:List Int),(0:Int),(0:Int),(0:Int),([]:List T21),([]:List (List T7))),([]:List T17),([]:List (Int × T41)),([]:List T22),([]:List (Int × T14)),(0:Int),(0:Int)),([]:List T20),(1:Int))
 else
 bif (mkOK x.2.1 x.2.1) then
 bif (mkOK x.2.2.1 x.2.2.1) then
 (loop Zb7 (x.1,(((List.length x.1):Nat):Int),(0:Int),(0:Int),(0:Int),(0:Int),((0:Int),(0:Int)),x,((0:Int),(0:Int)),(((0:Int),(0:Int),(0:Int),false) :: ([]:List T17)),([]:List (Int × T41)),(List.replicate (toN x.2.1) (false,([]:List T7))),(List.replicate (toN x.2.2.1) ((0:Int),(0:Int),([]:List T7))))).bind fun r4 =>
 (Z35 ((0:Int),(0:Int),(0:Int),(0:Int),(Int.negSucc 0),r4.2.2.2.2.1,r4.2.2.2.2.2.1,r4.2.2.2.2.2.2.1,r4.2.2.2.2.2.2.2.1,r4.2.2.2.2.2.2.2.2.1,r4.2.2.2.2.2.2.2.2.2,([]:List T20))).bind fun r5 =>
 (Z24 ((0:Int),(0:Int),r5.2.1,r5.2.2.1,r5.2.2.2.1,r5.2.2.2.2.1,r5.2.2.2.2.2.1,r5.2.2.2.2.2.2.1,r5.2.2.2.2.2.2.2)).bind fun r6 =>
 (Z2u (r6.1,r6.2.1,r6.2.2.1,r6.2.2.2.1,r6.2.2.2.2.1,r6.2.2.2.2.2.1,r6.2.2.2.2.2.2)).bind fun r7 =>
 some ((r7.1,r7.2.2.1,r7.2.2.2.1,r7.2.2.2.2.1,r7.2.2.2.2.2.1,r7.2.1),r7.2.2.2.2.2.2,(0:Int))
 else
 none
 else
 none
abbrev Z11z:=Spec.shp Zr1 Zwi Z18
def Zfo:Ctx:={ tb:=mkTb T2.tbl,fx:=[(38,[],Z157),(39,[],Z11g),(40,[],Z12x),(41,[],Z12f),(42,[],Z12s)],sum:=[(0,6,Yat Zoj Zmk (loop Zb7))],nt:=61,pin:=0,nr:=true,ys:=[] }
theorem Z19:Sound Tryz.prog 14 (Z11z) :=
 Sound.shp (C:=Zfo) (fn:=Tryz.f14) (by kernel_rfl) (c:=bodyOf Tryz.f14) (by kernel_rfl) (by decide) (ctxOK mixed tbl_ok rfl ⟨Z7q,Z5,Z36,Z25,Z30,trivial⟩ trivial) (SumOK.of ⟨(Yav (d:=.loop (loopOf 6 Tryz.f14)) (by kernel_rfl) Zb8),trivial⟩) (by kernel_rfl) Zr1 Zwi rfl (by decide) (by decide) rfl (by decide) rfl Z18 (fun x=>by kernel_rfl)
abbrev Zr4:Shape:={ sl:=[(0,(.hole y39)),(1,(.hole y12))],bl:=[],ts:=[y39,y12],pin:=0 }
abbrev Zwl:Shape:={ sl:=sl_1,bl:=[],ts:=ts_1,pin:=0 }
def Z1e (x:(T47 × T17)):Option (Bool) :=
 bif (decide (x.2.1 < (0:Int))) then
 some false
 else
 bif (decide (x.2.1 ≥ (((List.length x.1.2.2.2.2.2):Nat):Int))) then
 some false
 else
 bif (decide (x.2.2.1 < (0:Int))) then
 some false
 else
 bif (inb x.2.1 (List.length x.1.2.2.2.2.2)) then
 bif (decide (x.2.2.1 > (((List.length (getAt ([]:List T7) x.1.2.2.2.2.2 (toN x.2.1))):Nat):Int))) then
 some false
 else
 bif (decide (x.2.2.2.1 ≥ (0:Int))) then
 bif (decide (x.2.2.2.1 ≤ (2:Int))) then
 bif (inb x.2.1 (List.length x.1.2.2.2.2.2)) then
 some ((x.2.2.1 == (((List.length (getAt ([]:List T7) x.1.2.2.2.2.2 (toN x.2.1))):Nat):Int)) == (x.2.2.2.1 == (2:Int)))
 else
 none
 else
 some false
 else
 some false
 else
 none
abbrev Z122:=Spec.shp Zr4 Zwl Z1e
def Zfs:Ctx:={ tb:=mkTb T2.tbl,fx:=[],sum:=[],nt:=57,pin:=0,nr:=true,ys:=[] }
theorem Z1f:Sound Tryz.prog 108 (Z122) :=
 Sound.shp (C:=Zfs) (fn:=Tryz.f108) (by kernel_rfl) (c:=bodyOf Tryz.f108) (by kernel_rfl) (by decide) (ctxOK mixed tbl_ok rfl trivial trivial) (SumOK.of trivial) (by kernel_rfl) Zr4 Zwl rfl (by decide) (by decide) rfl (by decide) rfl Z1e (fun x=>by kernel_rfl)
abbrev Zr7:Shape:={ sl:=[(0,(.hole y12)),(1,(.ptr 0 []))],bl:=bl_0,ts:=[y12,y39],pin:=0 }
abbrev Zwo:Shape:={ sl:=sl_1,bl:=bl_0,ts:=[.bool,y39],pin:=1 }
def Z1j (x:(T17 × T47)):Option (Bool × T47) :=
 (Z1e (x.2,x.1)).bind fun r11 =>
 some ((Bool.not r11),x.2)
abbrev Z125:=Spec.shp Zr7 Zwo Z1j
def Zfw:Ctx:={ tb:=mkTb T2.tbl,fx:=[(108,[],Z122)],sum:=[],nt:=8,pin:=1,nr:=true,ys:=[] }
theorem Z1k:Sound Tryz.prog 107 (Z125) :=
 Sound.shp (C:=Zfw) (fn:=Tryz.f107) (by kernel_rfl) (c:=bodyOf Tryz.f107) (by kernel_rfl) (by decide) (ctxOK mixed tbl_ok rfl ⟨Z1f,trivial⟩ trivial) (SumOK.of trivial) (by kernel_rfl) Zr7 Zwo rfl (by decide) (by decide) rfl (by decide) rfl Z1j (fun x=>by kernel_rfl)
abbrev Zq6:Shape:={ sl:=[(0,(.hole y18)),(1,(.fn 107 .nil (.cons (.ptr 0 []) .nil))),(7,(.hole (.int .i64))),(8,(.hole (.int .i64)))],bl:=bl_0,ts:=[y18,(.int .i64),(.int .i64),y39],pin:=1 }
abbrev Zo7:List (ETag × Shape):=[(.ret,{ sl:=sl_3,bl:=bl_0,ts:=[(.int .i64),y39],pin:=1 }),(.exit 0,{ sl:=[],bl:=bl_0,ts:=[y39],pin:=1 })]
def Zeh (x:(List (T17) × Int × Int × T47)):Option ((List (T17) × Int × Int × T47) ⊕ ((Int × T47) ⊕ (T47))) :=
 bif (decide (x.2.2.1 < x.2.1)) then
 bif (inb x.2.2.1 (List.length x.1)) then
 (Z1j ((getAt ((0:Int),(0:Int),(0:Int),false) x.1 (toN x.2.2.1)),x.2.2.2)).bind fun r10 =>
 bif r10.1 then
 some (.inr (.inl (x.2.2.1,r10.2)))
 else
 some (.inl (x.1,x.2.1,(IntKind.wrap .i64 (x.2.2.1+(1:Int))),r10.2))
 else
 none
 else
 some (.inr (.inr x.2.2.2))
def Zlr:Ctx:={ tb:=mkTb T2.tbl,fx:=[(107,[],Z125)],sum:=[],nt:=19,pin:=1,nr:=true,ys:=[] }
theorem Zei:CSound Tryz.prog ⟨19,1,true⟩ (.loop (loopOf 3 Tryz.f156)) (Yat Zq6 Zo7 (loop Zeh)) :=
 Y89 (C:=Zlr) (ctxOK mixed tbl_ok rfl ⟨Z1k,trivial⟩ trivial) (SumOK.of trivial) Zq6 Zo7 rfl rfl Zeh (fun x=>by kernel_rfl)
abbrev Zvf:Shape:={ sl:=[(0,(.hole y18)),(1,(.fn 107 .nil (.cons (.ptr 0 []) .nil)))],bl:=bl_0,ts:=[y18,y39],pin:=0 }
abbrev Z10w:Shape:={ sl:=sl_2,bl:=bl_0,ts:=[(.int .i64),y39],pin:=1 }
def Za1 (x:(List (T17) × T47)):Option (Int × T47) :=
 (loop Zeh (x.1,(((List.length x.1):Nat):Int),(0:Int),x.2)).bind fun r9 =>
 match r9 with
 | .inl y10 =>
 some (y10.1,y10.2)
 | .inr y10 =>
 some ((Int.negSucc 0),y10)
abbrev Z16c:=Spec.shp Zvf Z10w Za1
def Zlq:Ctx:={ tb:=mkTb T2.tbl,fx:=[(107,[],Z125)],sum:=[(0,3,Yat Zq6 Zo7 (loop Zeh))],nt:=19,pin:=1,nr:=true,ys:=[] }
theorem Za2:Sound Tryz.prog 156 (Z16c) :=
 Sound.shp (C:=Zlq) (fn:=Tryz.f156) (by kernel_rfl) (c:=bodyOf Tryz.f156) (by kernel_rfl) (by decide) (ctxOK mixed tbl_ok rfl ⟨Z1k,trivial⟩ trivial) (SumOK.of ⟨(Yav (d:=.loop (loopOf 3 Tryz.f156)) (by kernel_rfl) Zei),trivial⟩) (by kernel_rfl) Zvf Z10w rfl (by decide) (by decide) rfl (by decide) rfl Za1 (fun x=>by kernel_rfl)
abbrev Zv6:Shape:={ sl:=[(0,(.hole y18)),(1,(.fn 107 .nil (.cons (.ptr 0 []) .nil)))],bl:=bl_0,ts:=[y18,y39],pin:=0 }
abbrev Z10n:Shape:={ sl:=sl_1,bl:=bl_0,ts:=[.bool,y39],pin:=1 }
def Z9j (x:(List (T17) × T47)):Option (Bool × T47) :=
 (Za1 (x.1,x.2)).bind fun r8 =>
 some ((decide (r8.1 ≥ (0:Int))),r8.2)
abbrev Z163:=Spec.shp Zv6 Z10n Z9j
def Zlf:Ctx:={ tb:=mkTb T2.tbl,fx:=[(156,[107],Z16c)],sum:=[],nt:=9,pin:=1,nr:=true,ys:=[] }
theorem Z9k:Sound Tryz.prog 95 (Z163) :=
 Sound.shp (C:=Zlf) (fn:=Tryz.f95) (by kernel_rfl) (c:=bodyOf Tryz.f95) (by kernel_rfl) (by decide) (ctxOK mixed tbl_ok rfl ⟨Za2,trivial⟩ trivial) (SumOK.of trivial) (by kernel_rfl) Zv6 Z10n rfl (by decide) (by decide) rfl (by decide) rfl Z9j (fun x=>by kernel_rfl)
abbrev Zuu:Shape:={ sl:=[(0,(.hole y21))],bl:=[],ts:=[y21],pin:=0 }
abbrev Z10b:Shape:={ sl:=sl_1,bl:=[],ts:=ts_1,pin:=0 }
def Z8v (x:(T16)):Option (Bool) :=
 bif (decide (x.1 ≥ (0:Int))) then
 bif (decide (x.1 ≤ (8:Int))) then
 bif ((((List.length x.2.2.1):Nat):Int) == x.1) then
 bif (decide (x.2.2.2 ≥ (0:Int))) then
 bif (decide (x.2.2.2 ≤ x.1)) then
 bif (decide (x.2.1 ≥ (0:Int))) then
 some (decide (x.2.1 < (Max.max (1:Int) x.1)))
 else
 some false
 else
 some false
 else
 some false
 else
 some false
 else
 some false
 else
 some false
abbrev Z15r:=Spec.shp Zuu Z10b Z8v
def Zl2:Ctx:={ tb:=mkTb T2.tbl,fx:=[],sum:=[],nt:=46,pin:=0,nr:=true,ys:=[] }
theorem Z8w:Sound Tryz.prog 196 (Z15r) :=
 Sound.shp (C:=Zl2) (fn:=Tryz.f196) (by kernel_rfl) (c:=bodyOf Tryz.f196) (by kernel_rfl) (by decide) (ctxOK mixed tbl_ok rfl trivial trivial) (SumOK.of trivial) (by kernel_rfl) Zuu Z10b rfl (by decide) (by decide) rfl (by decide) rfl Z8v (fun x=>by kernel_rfl)
abbrev Zuv:Shape:={ sl:=[(0,(.hole (.one y21)))],bl:=[],ts:=[(.one y21)],pin:=0 }
abbrev Z10c:Shape:={ sl:=[(0,(.fn 231 .nil (.cons (.ptr 0 []) .nil)))],bl:=[.var (.hole (.one y21))],ts:=[(.one y21)],pin:=0 }
def Z8x (x:(T16)):Option (T16) :=
 some x
abbrev Z15s:=Spec.shp Zuv Z10c Z8x
def Zl3:Ctx:={ tb:=mkTb T2.tbl,fx:=[],sum:=[],nt:=4,pin:=0,nr:=true,ys:=[] }
theorem Z90:Sound Tryz.prog 197 (Z15s) :=
 Sound.shp (C:=Zl3) (fn:=Tryz.f197) (by kernel_rfl) (c:=bodyOf Tryz.f197) (by kernel_rfl) (by decide) (ctxOK mixed tbl_ok rfl trivial trivial) (SumOK.of trivial) (by kernel_rfl) Zuv Z10c rfl (by decide) (by decide) rfl (by decide) rfl Z8x (fun x=>by kernel_rfl)
abbrev Zuq:Shape:={ sl:=[(4,(.ptr 0 [])),(12,(.hole (.int .i64)))],bl:=[.var (.sl 1),.row (.int .i64)],ts:=[(.int .i64),y0],pin:=0 }
abbrev Z107:Shape:={ sl:=sl_2,bl:=[.var (.sl 1),.row (.int .i64)],ts:=[(.int .i64),y0],pin:=1 }
def Z8n (x:T3):Option T3 :=
 bif (fits ((List.length x.2)+(List.length (x.1 :: ([]:List Int))))) then
 some ((0:Int),(x.2++(x.1 :: ([]:List Int))))
 else
 none
def Zky:Ctx:={ tb:=mkTb T2.tbl,fx:=[],sum:=[],nt:=18,pin:=1,nr:=false,ys:=[] }
theorem Z8o:YSound Tryz.prog 10485766 [4] (Spec.rnd [4,12] Zuq Z107 Z8n) :=
 YSound.rnd (C:=Zky) (rt:=⟨rfPs (rfOf 6 Tryz.f160),rfAs (rfOf 6 Tryz.f160),rfBody (rfOf 6 Tryz.f160),18⟩) (by kernel_rfl) (ctxOK mixed tbl_ok rfl trivial) (SumOK.of trivial) (SumOK.of trivial) rfl rfl [4] Zuq Z107 rfl (by decide) (by decide) rfl (fun y=>⟨_,rfl⟩) (of_decide_eq_true (by kernel_rfl)) (of_decide_eq_true (by kernel_rfl)) Z8n (fun x=>by kernel_rfl)
abbrev Zux:Shape:={ sl:=[(0,(.hole (.one y21))),(1,(.hole (.int .i64)))],bl:=[],ts:=[(.one y21),(.int .i64)],pin:=0 }
abbrev Z10e:Shape:={ sl:=sl_2,bl:=[],ts:=ts_2,pin:=0 }
def Z91 (x:(T16 × Int)):Option (Int) :=
 bif (x.1.1 != (0:Int)) then
 some (Int.tmod (IntKind.wrap .i64 (x.1.2.1+x.2)) x.1.1)
 else
 none
abbrev Z15u:=Spec.shp Zux Z10e Z91
def Zl6:Ctx:={ tb:=mkTb T2.tbl,fx:=[],sum:=[],nt:=14,pin:=0,nr:=true,ys:=[] }
theorem Z94:Sound Tryz.prog 232 (Z15u) :=
 Sound.shp (C:=Zl6) (fn:=Tryz.f232) (by kernel_rfl) (c:=bodyOf Tryz.f232) (by kernel_rfl) (by decide) (ctxOK mixed tbl_ok rfl trivial trivial) (SumOK.of trivial) (by kernel_rfl) Zux Z10e rfl (by decide) (by decide) rfl (by decide) rfl Z91 (fun x=>by kernel_rfl)
abbrev Zq3:Shape:={ sl:=[(0,(.yl 0)),(1,(.ptr 1 [])),(6,(.hole (.int .i64))),(7,(.hole (.int .i64)))],bl:=bl_6,ts:=[(.int .i64),(.int .i64),(.one y21),y0],pin:=3 }
abbrev Zo4:List (ETag × Shape):=[(.ret,{ sl:=[],bl:=bl_7,ts:=[(.int .i64),(.one y21),y0],pin:=3 }),(.exit 0,{ sl:=[],bl:=bl_6,ts:=[(.one y21),y0],pin:=3 })]
def Zeb (x:(Int × Int × T16 × List Int)):Option ((Int × Int × T16 × List Int) ⊕ (T33 ⊕ (T16 × List Int))) :=
 bif (decide (x.2.1 < x.1)) then
 (Z91 (x.2.2.1,x.2.1)).bind fun r15 =>
 bif (inb r15 (List.length x.2.2.1.2.2.1)) then
 (Z8n ((getAt (0:Int) x.2.2.1.2.2.1 (toN r15)),x.2.2.2)).bind fun r16 =>
 bif (eqI r16.1 (0:Int)) then
 some (.inl (x.1,(IntKind.wrap .i64 (x.2.1+(1:Int))),x.2.2.1,r16.2))
 else
 some (.inr (.inl (r16.1,x.2.2.1,r16.2)))
 else
 none
 else
 some (.inr (.inr (x.2.2.1,x.2.2.2)))
def Zl5:Ctx:={ tb:=mkTb T2.tbl,fx:=[(232,[],Z15u)],sum:=[],nt:=22,pin:=3,nr:=true,ys:=[(10485766,[4],Spec.rnd [4,12] { sl:=[(4,(.ptr 0 [])),(12,(.hole (.int .i64)))],bl:=[.var (.sl 1),.row (.int .i64)],ts:=[(.int .i64),(.slice (.int .i64))],pin:=0 } { sl:=[(0,(.hole (.int .i64)))],bl:=[.var (.sl 1),.row (.int .i64)],ts:=[(.int .i64),(.slice (.int .i64))],pin:=1 } Z8n)] }
theorem Zec:CSound Tryz.prog ⟨22,3,true⟩ (.loop (loopOf 2 Tryz.f231)) (Yat Zq3 Zo4 (loop Zeb)) :=
 Y89 (C:=Zl5) (ctxOK mixed tbl_ok rfl ⟨Z94,trivial⟩ ⟨Z8o,trivial⟩) (SumOK.of trivial) Zq3 Zo4 rfl rfl Zeb (fun x=>by kernel_rfl)
abbrev Zuw:Shape:={ sl:=[(0,(.yl 0)),(1,(.ptr 1 []))],bl:=bl_6,ts:=[(.one y21),y0],pin:=0 }
abbrev Z10d:Shape:={ sl:=[],bl:=bl_7,ts:=[(.int .i64),(.one y21),y0],pin:=3 }
def Z8y (x:(T16 × List Int)):Option T33 :=
 (loop Zeb (x.1.2.2.2,(0:Int),x.1,x.2)).bind fun r14 =>
 match r14 with
 | .inl y15 =>
 some (y15.1,y15.2.1,y15.2.2)
 | .inr y15 =>
 some ((0:Int),y15.1,y15.2)
abbrev Z15t:=Spec.shp Zuw Z10d Z8y
def Zl4:Ctx:={ tb:=mkTb T2.tbl,fx:=[(232,[],Z15u)],sum:=[(0,2,Yat Zq3 Zo4 (loop Zeb))],nt:=22,pin:=3,nr:=true,ys:=[(10485766,[4],Spec.rnd [4,12] Zuq Z107 Z8n)] }
theorem Z8z:Sound Tryz.prog 231 (Z15t) :=
 Sound.shp (C:=Zl4) (fn:=Tryz.f231) (by kernel_rfl) (c:=bodyOf Tryz.f231) (by kernel_rfl) (by decide) (ctxOK mixed tbl_ok rfl ⟨Z94,trivial⟩ ⟨Z8o,trivial⟩) (SumOK.of ⟨(Yav (d:=.loop (loopOf 2 Tryz.f231)) (by kernel_rfl) Zec),trivial⟩) (by kernel_rfl) Zuw Z10d rfl (by decide) (by decide) rfl (by decide) rfl Z8y (fun x=>by kernel_rfl)
abbrev Zup:Shape:={ sl:=[(0,(.hole y21))],bl:=[],ts:=[y21],pin:=0 }
abbrev Z106:Shape:={ sl:=sl_16,bl:=[],ts:=[y0,(.int .i64)],pin:=0 }
def Z8l (x:(T16)):Option T2 :=
 (Z8v x).bind fun r11 =>
 bif (Bool.not r11) then
 some (([]:List Int),(1:Int))
 else
 (Z8x x).bind fun r12 =>
 (Z8y (r12,([]:List Int))).bind fun r13 =>
 bif (eqI r13.1 (0:Int)) then
 some (r13.2.2,(0:Int))
 else
 bif (eqI r13.1 (1:Int)) then
 some (([]:List Int),(0:Int))
 else
 none
abbrev Z15n:=Spec.shp Zup Z106 Z8l
def Zkx:Ctx:={ tb:=mkTb T2.tbl,fx:=[(196,[],Z15r),(197,[],Z15s)],sum:=[(3,6,Ybi (rfF (rfOf 6 Tryz.f160)) 10485766 [4] [] [(231,[11485766],Z15t)])],nt:=18,pin:=0,nr:=true,ys:=[] }
theorem Z8m:Sound Tryz.prog 160 (Z15n) :=
 Sound.shp (C:=Zkx) (fn:=Tryz.f160) (by kernel_rfl) (c:=bodyOf Tryz.f160) (by kernel_rfl) (by decide) (ctxOK mixed tbl_ok rfl ⟨Z8w,Z90,trivial⟩ trivial) (SumOK.of ⟨(Yav (d:=rfOf 6 Tryz.f160) (by kernel_rfl) (Ybk (c:=rfOf 6 Tryz.f160) rfl (by kernel_rfl) Z8z [4] [])),trivial⟩) (by kernel_rfl) Zup Z106 rfl (by decide) (by decide) rfl (by decide) rfl Z8l (fun x=>by kernel_rfl)
abbrev Zvv:Shape:={ sl:=sl_17,bl:=[],ts:=[y5],pin:=0 }
abbrev Z11c:Shape:={ sl:=sl_1,bl:=[],ts:=ts_1,pin:=0 }
def Zaz (x:(T7)):Option (Bool) :=
 bif (decide (x.1 ≥ (0:Int))) then
 bif (decide (x.2.1 ≥ (0:Int))) then
 some (decide (x.2.2 ≥ (0:Int)))
 else
 some false
 else
 some false
abbrev Z16s:=Spec.shp Zvv Z11c Zaz
def Zmf:Ctx:={ tb:=mkTb T2.tbl,fx:=[],sum:=[],nt:=16,pin:=0,nr:=true,ys:=[] }
theorem Zb0:Sound Tryz.prog 199 (Z16s) :=
 Sound.shp (C:=Zmf) (fn:=Tryz.f199) (by kernel_rfl) (c:=bodyOf Tryz.f199) (by kernel_rfl) (by decide) (ctxOK mixed tbl_ok rfl trivial trivial) (SumOK.of trivial) (by kernel_rfl) Zvv Z11c rfl (by decide) (by decide) rfl (by decide) rfl Zaz (fun x=>by kernel_rfl)
abbrev Zvu:Shape:={ sl:=sl_17,bl:=[],ts:=[y5],pin:=0 }
abbrev Z11b:Shape:={ sl:=sl_1,bl:=[],ts:=ts_1,pin:=0 }
def Zaw (x:(T7)):Option (Bool) :=
 (Zaz x).bind fun r16 =>
 some (Bool.not r16)
abbrev Z16r:=Spec.shp Zvu Z11b Zaw
def Zme:Ctx:={ tb:=mkTb T2.tbl,fx:=[(199,[],Z16s)],sum:=[],nt:=6,pin:=0,nr:=true,ys:=[] }
theorem Zax:Sound Tryz.prog 198 (Z16r) :=
 Sound.shp (C:=Zme) (fn:=Tryz.f198) (by kernel_rfl) (c:=bodyOf Tryz.f198) (by kernel_rfl) (by decide) (ctxOK mixed tbl_ok rfl ⟨Zb0,trivial⟩ trivial) (SumOK.of trivial) (by kernel_rfl) Zvu Z11b rfl (by decide) (by decide) rfl (by decide) rfl Zaw (fun x=>by kernel_rfl)
abbrev Zqc:Shape:={ sl:=[(0,(.hole (.slice y5))),(1,(.fn 198 .nil .nil)),(7,(.hole (.int .i64))),(8,(.hole (.int .i64)))],bl:=[],ts:=[(.slice y5),(.int .i64),(.int .i64)],pin:=0 }
abbrev Zod:List (ETag × Shape):=[(.ret,{ sl:=sl_3,bl:=[],ts:=ts_2,pin:=0 }),(.exit 0,{ sl:=[],bl:=[],ts:=[],pin:=0 })]
def Zet (x:(List (T7) × Int × Int)):Option ((List (T7) × Int × Int) ⊕ ((Int) ⊕ Unit)) :=
 bif (decide (x.2.2 < x.2.1)) then
 bif (inb x.2.2 (List.length x.1)) then
 (Zaw (getAt ((0:Int),(0:Int),(0:Int)) x.1 (toN x.2.2))).bind fun r15 =>
 bif r15 then
 some (.inr (.inl x.2.2))
 else
 some (.inl (x.1,x.2.1,(IntKind.wrap .i64 (x.2.2+(1:Int)))))
 else
 none
 else
 some (.inr (.inr ()))
def Zm3:Ctx:={ tb:=mkTb T2.tbl,fx:=[(198,[],Z16r)],sum:=[],nt:=19,pin:=0,nr:=true,ys:=[] }
theorem Zeu:CSound Tryz.prog ⟨19,0,true⟩ (.loop (loopOf 3 Tryz.f163)) (Yat Zqc Zod (loop Zet)) :=
 Y89 (C:=Zm3) (ctxOK mixed tbl_ok rfl ⟨Zax,trivial⟩ trivial) (SumOK.of trivial) Zqc Zod rfl rfl Zet (fun x=>by kernel_rfl)
abbrev Zvl:Shape:={ sl:=[(0,(.hole (.slice y5))),(1,(.fn 198 .nil .nil))],bl:=[],ts:=[(.slice y5)],pin:=0 }
abbrev Z112:Shape:={ sl:=sl_2,bl:=[],ts:=ts_2,pin:=0 }
def Zad (x:(List (T7))):Option (Int) :=
 (loop Zet (x,(((List.length x):Nat):Int),(0:Int))).bind fun r14 =>
 match r14 with
 | .inl y15 =>
 some y15
 | .inr y15 =>
 some (Int.negSucc 0)
abbrev Z16i:=Spec.shp Zvl Z112 Zad
def Zm2:Ctx:={ tb:=mkTb T2.tbl,fx:=[(198,[],Z16r)],sum:=[(0,3,Yat Zqc Zod (loop Zet))],nt:=19,pin:=0,nr:=true,ys:=[] }
theorem Zae:Sound Tryz.prog 163 (Z16i) :=
 Sound.shp (C:=Zm2) (fn:=Tryz.f163) (by kernel_rfl) (c:=bodyOf Tryz.f163) (by kernel_rfl) (by decide) (ctxOK mixed tbl_ok rfl ⟨Zax,trivial⟩ trivial) (SumOK.of ⟨(Yav (d:=.loop (loopOf 3 Tryz.f163)) (by kernel_rfl) Zeu),trivial⟩) (by kernel_rfl) Zvl Z112 rfl (by decide) (by decide) rfl (by decide) rfl Zad (fun x=>by kernel_rfl)
abbrev Zva:Shape:={ sl:=[(0,(.hole (.slice y5))),(1,(.fn 198 .nil .nil))],bl:=[],ts:=[(.slice y5)],pin:=0 }
abbrev Z10r:Shape:={ sl:=sl_1,bl:=[],ts:=ts_1,pin:=0 }
def Z9r (x:(List (T7))):Option (Bool) :=
 (Zad x).bind fun r13 =>
 some (decide (r13 ≥ (0:Int)))
abbrev Z167:=Spec.shp Zva Z10r Z9r
def Zlj:Ctx:={ tb:=mkTb T2.tbl,fx:=[(163,[198],Z16i)],sum:=[],nt:=9,pin:=0,nr:=true,ys:=[] }
theorem Z9s:Sound Tryz.prog 113 (Z167) :=
 Sound.shp (C:=Zlj) (fn:=Tryz.f113) (by kernel_rfl) (c:=bodyOf Tryz.f113) (by kernel_rfl) (by decide) (ctxOK mixed tbl_ok rfl ⟨Zae,trivial⟩ trivial) (SumOK.of trivial) (by kernel_rfl) Zva Z10r rfl (by decide) (by decide) rfl (by decide) rfl Z9r (fun x=>by kernel_rfl)
abbrev Zqf:Shape:={ sl:=[(3,(.mp 0)),(7,(.hole (.slice y5))),(8,(.hole (.int .i64))),(9,(.hole (.int .i64)))],bl:=[.mp y4 (.int .i64)],ts:=[(.slice y5),(.int .i64),(.int .i64),(.slice y8)],pin:=0 }
abbrev Zog:List (ETag × Shape):=[(.exit 0,{ sl:=[(3,(.mp 0))],bl:=[.mp y4 (.int .i64)],ts:=[(.slice y8)],pin:=0 })]
def Zez (x:(List (T7) × Int × Int × List (T8))):Option ((List (T7) × Int × Int × List (T8)) ⊕ (List (T8))) :=
 bif (decide (x.2.2.1 < x.2.1)) then
 bif (inb x.2.2.1 (List.length x.1)) then
 bif (inb (natI (@mpos (Int × Int) (Int) (Ty.beq y4) ((getAt ((0:Int),(0:Int),(0:Int)) x.1 (toN x.2.2.1)).1,(getAt ((0:Int),(0:Int),(0:Int)) x.1 (toN x.2.2.1)).2.1) x.2.2.2)) (List.length (@mput (Int × Int) (Int) (Ty.beq y4) ((getAt ((0:Int),(0:Int),(0:Int)) x.1 (toN x.2.2.1)).1,(getAt ((0:Int),(0:Int),(0:Int)) x.1 (toN x.2.2.1)).2.1) (@mlook (Int × Int) (Int) (Ty.beq y4) (Ty.zero (.int .i64)) ((getAt ((0:Int),(0:Int),(0:Int)) x.1 (toN x.2.2.1)).1,(getAt ((0:Int),(0:Int),(0:Int)) x.1 (toN x.2.2.1)).2.1) x.2.2.2) x.2.2.2))) then
 some (.inl (x.1,x.2.1,(IntKind.wrap .i64 (x.2.2.1+(1:Int))),(mset (@mput (Int × Int) (Int) (Ty.beq y4) ((getAt ((0:Int),(0:Int),(0:Int)) x.1 (toN x.2.2.1)).1,(getAt ((0:Int),(0:Int),(0:Int)) x.1 (toN x.2.2.1)).2.1) (@mlook (Int × Int) (Int) (Ty.beq y4) (Ty.zero (.int .i64)) ((getAt ((0:Int),(0:Int),(0:Int)) x.1 (toN x.2.2.1)).1,(getAt ((0:Int),(0:Int),(0:Int)) x.1 (toN x.2.2.1)).2.1) x.2.2.2) x.2.2.2) (toN (natI (@mpos (Int × Int) (Int) (Ty.beq y4) ((getAt ((0:Int),(0:Int),(0:Int)) x.1 (toN x.2.2.1)).1,(getAt ((0:Int),(0:Int),(0:Int)) x.1 (toN x.2.2.1)).2.1) x.2.2.2))) (IntKind.wrap .i64 ((@mlook (Int × Int) (Int) (Ty.beq y4) (Ty.zero (.int .i64)) ((getAt ((0:Int),(0:Int),(0:Int)) x.1 (toN x.2.2.1)).1,(getAt ((0:Int),(0:Int),(0:Int)) x.1 (toN x.2.2.1)).2.1) x.2.2.2)+(1:Int))))))
 else
 none
 else
 none
 else
 some (.inr x.2.2.2)
def Zmh:Ctx:={ tb:=mkTb T2.tbl,fx:=[],sum:=[],nt:=25,pin:=0,nr:=true,ys:=[] }
theorem Zf0:CSound Tryz.prog ⟨25,0,true⟩ (.loop (loopOf 4 Tryz.f200)) (Yat Zqf Zog (loop Zez)) :=
 Y89 (C:=Zmh) (ctxOK mixed tbl_ok rfl trivial trivial) (SumOK.of trivial) Zqf Zog rfl rfl Zez (fun x=>by kernel_rfl)
abbrev Zvw:Shape:={ sl:=sl_18,bl:=[],ts:=[(.slice y5)],pin:=0 }
abbrev Z11d:Shape:={ sl:=[(0,(.mp 0))],bl:=[.mp y4 (.int .i64)],ts:=[(.slice y8)],pin:=0 }
def Zb1 (x:(List (T7))):Option (List (T8)) :=
 (loop Zez (x,(((List.length x):Nat):Int),(0:Int),([]:List T8))).bind fun r14 =>
 some r14
abbrev Z16t:=Spec.shp Zvw Z11d Zb1
def Zmg:Ctx:={ tb:=mkTb T2.tbl,fx:=[],sum:=[(0,4,Yat Zqf Zog (loop Zez))],nt:=25,pin:=0,nr:=true,ys:=[] }
theorem Zb2:Sound Tryz.prog 200 (Z16t) :=
 Sound.shp (C:=Zmg) (fn:=Tryz.f200) (by kernel_rfl) (c:=bodyOf Tryz.f200) (by kernel_rfl) (by decide) (ctxOK mixed tbl_ok rfl trivial trivial) (SumOK.of ⟨(Yav (d:=.loop (loopOf 4 Tryz.f200)) (by kernel_rfl) Zf0),trivial⟩) (by kernel_rfl) Zvw Z11d rfl (by decide) (by decide) rfl (by decide) rfl Zb1 (fun x=>by kernel_rfl)
abbrev Zvt:Shape:={ sl:=sl_18,bl:=[],ts:=[(.slice y5)],pin:=0 }
abbrev Z11a:Shape:={ sl:=sl_1,bl:=[],ts:=ts_1,pin:=0 }
def Zav (x:(List (T7))):Option (Bool) :=
 (Z9r x).bind fun r12 =>
 bif r12 then
 some false
 else
 bif (decide ((((List.length x):Nat):Int) ≤ (64:Int))) then
 (Zb1 x).bind fun r13 =>
 some ((((List.length r13):Nat):Int) == (((List.length x):Nat):Int))
 else
 some false
abbrev Z16q:=Spec.shp Zvt Z11a Zav
def Zmd:Ctx:={ tb:=mkTb T2.tbl,fx:=[(113,[198],Z167),(200,[],Z16t)],sum:=[],nt:=16,pin:=0,nr:=true,ys:=[] }
theorem Zay:Sound Tryz.prog 161 (Z16q) :=
 Sound.shp (C:=Zmd) (fn:=Tryz.f161) (by kernel_rfl) (c:=bodyOf Tryz.f161) (by kernel_rfl) (by decide) (ctxOK mixed tbl_ok rfl ⟨Z9s,Zb2,trivial⟩ trivial) (SumOK.of trivial) (by kernel_rfl) Zvt Z11a rfl (by decide) (by decide) rfl (by decide) rfl Zav (fun x=>by kernel_rfl)
abbrev Zoh:Shape:={ sl:=[(0,(.hole y0)),(1,(.hole (.int .i64))),(2,(.hole (.int .i64))),(9,(.hole y0)),(10,(.hole (.int .i64))),(11,(.hole (.int .i64)))],bl:=[],ts:=[y0,(.int .i64),(.int .i64),y0,(.int .i64),(.int .i64)],pin:=0 }
abbrev Zmi:List (ETag × Shape):=[(.ret,{ sl:=[(6,(.hole .bool))],bl:=[],ts:=ts_1,pin:=0 }),(.exit 0,{ sl:=sl_19,bl:=[],ts:=ts_3,pin:=0 })]
def Zb3 (x:(List Int × Int × Int × List Int × Int × Int)):Option ((List Int × Int × Int × List Int × Int × Int) ⊕ ((Bool) ⊕ T9)) :=
 bif (decide (x.2.2.2.2.2 < x.2.2.2.2.1)) then
 bif (inb x.2.2.2.2.2 (List.length x.2.2.2.1)) then
 bif ((getAt (0:Int) x.2.2.2.1 (toN x.2.2.2.2.2)) != (IntKind.wrap .i64 (x.2.1+x.2.2.2.2.2))) then
 some (.inr (.inl false))
 else
 some (.inl (x.1,x.2.1,x.2.2.1,x.2.2.2.1,x.2.2.2.2.1,(IntKind.wrap .i64 (x.2.2.2.2.2+(1:Int)))))
 else
 none
 else
 some (.inr (.inr (x.1,x.2.1,x.2.2.1)))
def Zfa:Ctx:={ tb:=mkTb T2.tbl,fx:=[],sum:=[],nt:=28,pin:=0,nr:=true,ys:=[] }
theorem Zb4:CSound Tryz.prog ⟨28,0,true⟩ (.loop (loopOf 3 Tryz.f162)) (Yat Zoh Zmi (loop Zb3)) :=
 Y89 (C:=Zfa) (ctxOK mixed tbl_ok rfl trivial trivial) (SumOK.of trivial) Zoh Zmi rfl rfl Zb3 (fun x=>by kernel_rfl)
abbrev Zqo:Shape:={ sl:=sl_19,bl:=[],ts:=ts_3,pin:=0 }
abbrev Zw5:Shape:={ sl:=sl_1,bl:=[],ts:=ts_1,pin:=0 }
def Zg (x:T9):Option (Bool) :=
 (loop Zb3 (x.1,x.2.1,x.2.2,x.1,(((List.length x.1):Nat):Int),(0:Int))).bind fun r14 =>
 match r14 with
 | .inl y15 =>
 some y15
 | .inr y15 =>
 some ((((List.length y15.1):Nat):Int) == (IntKind.wrap .i64 (y15.2.2 - y15.2.1)))
abbrev Z11m:=Spec.shp Zqo Zw5 Zg
def Zf9:Ctx:={ tb:=mkTb T2.tbl,fx:=[],sum:=[(0,3,Yat Zoh Zmi (loop Zb3))],nt:=28,pin:=0,nr:=true,ys:=[] }
theorem Zh:Sound Tryz.prog 162 (Z11m) :=
 Sound.shp (C:=Zf9) (fn:=Tryz.f162) (by kernel_rfl) (c:=bodyOf Tryz.f162) (by kernel_rfl) (by decide) (ctxOK mixed tbl_ok rfl trivial trivial) (SumOK.of ⟨(Yav (d:=.loop (loopOf 3 Tryz.f162)) (by kernel_rfl) Zb4),trivial⟩) (by kernel_rfl) Zqo Zw5 rfl (by decide) (by decide) rfl (by decide) rfl Zg (fun x=>by kernel_rfl)
abbrev Zql:Shape:={ sl:=[(0,(.hole y40))],bl:=[],ts:=[y40],pin:=0 }
abbrev Zw2:Shape:={ sl:=sl_1,bl:=[],ts:=ts_1,pin:=0 }
def Za (x:T43):Option (Bool) :=
 (Z8l x.2.2.1).bind fun r10 =>
 bif (r10.2 != (0:Int)) then
 some false
 else
 bif (decide (x.1 < (Int.negSucc 0))) then
 some false
 else
 bif (decide (x.1 > (3:Int))) then
 some false
 else
 bif (x.2.2.1.1 != (Max.max x.1 (0:Int))) then
 some false
 else
 (Zav x.2.2.2.2.2.1).bind fun r11 =>
 bif (Bool.not r11) then
 some false
 else
 (Zav x.2.2.2.2.2.2).bind fun r12 =>
 bif (Bool.not r12) then
 some false
 else
 bif (decide (x.2.2.2.1 < (0:Int))) then
 some false
 else
 bif (decide (x.2.2.2.1 > (1048576:Int))) then
 some false
 else
 bif (decide (x.2.2.2.2.1 < (0:Int))) then
 some false
 else
 bif (decide (x.2.2.2.2.1 > x.2.2.2.1)) then
 some false
 else
 (Zg (r10.1,x.2.2.2.2.1,x.2.2.2.1)).bind fun r13 =>
 bif (Bool.not r13) then
 some false
 else
 bif (decide (x.1 < (0:Int))) then
 bif (Bool.not x.2.1) then
 bif (x.2.2.2.1 == (0:Int)) then
 bif (Bool.not (decide ((((List.length x.2.2.2.2.2.1):Nat):Int) > (0:Int)))) then
 some (Bool.not (decide ((((List.length x.2.2.2.2.2.2):Nat):Int) > (0:Int))))
 else
 some false
 else
 some false
 else
 some false
 else
 bif x.2.1 then
 bif (Bool.not (decide ((((List.length x.2.2.2.2.2.1):Nat):Int) > (0:Int)))) then
 some (Bool.not (decide ((((List.length x.2.2.2.2.2.2):Nat):Int) > (0:Int))))
 else
 some false
 else
 bif (Bool.not (decide ((((List.length x.2.2.2.2.2.1):Nat):Int) > (0:Int)))) then
 bif (Bool.not (decide ((((List.length x.2.2.2.2.2.2):Nat):Int) > (0:Int)))) then
 some true
 else
 some ((((List.length r10.1):Nat):Int) == (0:Int))
 else
 bif ((((List.length r10.1):Nat):Int) == x.1) then
 bif (Bool.not (decide ((((List.length x.2.2.2.2.2.2):Nat):Int) > (0:Int)))) then
 some true
 else
 some ((((List.length r10.1):Nat):Int) == (0:Int))
 else
 some false
abbrev Z11j:=Spec.shp Zql Zw2 Za
def Zf6:Ctx:={ tb:=mkTb T2.tbl,fx:=[(160,[],Z15n),(161,[],Z16q),(162,[],Z11m)],sum:=[],nt:=130,pin:=0,nr:=true,ys:=[] }
theorem Zb:Sound Tryz.prog 112 (Z11j) :=
 Sound.shp (C:=Zf6) (fn:=Tryz.f112) (by kernel_rfl) (c:=bodyOf Tryz.f112) (by kernel_rfl) (by decide) (ctxOK mixed tbl_ok rfl ⟨Z8m,Zay,Zh,trivial⟩ trivial) (SumOK.of trivial) (by kernel_rfl) Zql Zw2 rfl (by decide) (by decide) rfl (by decide) rfl Za (fun x=>by kernel_rfl)
abbrev Zr8:Shape:={ sl:=[(0,(.hole .bool)),(1,(.ptr 0 [])),(2,(.ptr 1 []))],bl:=[.var (.hole y45),.var (.hole (.int .i64))],ts:=[.bool,y45,(.int .i64)],pin:=0 }
abbrev Zwp:Shape:={ sl:=[(0,(.fn 110 .nil (.cons (.ptr 0 []) (.cons (.ptr 1 []) (.cons (.ptr 2 []) .nil)))))],bl:=bl_8,ts:=[y45,(.int .i64),.bool],pin:=2 }
def Z1l (x:(Bool × (T47 × T61) × Int)):Option ((T47 × T61) × Int × Bool) :=
 some (x.2.1,x.2.2,x.1)
abbrev Z126:=Spec.shp Zr8 Zwp Z1l
def Zfy:Ctx:={ tb:=mkTb T2.tbl,fx:=[],sum:=[],nt:=6,pin:=2,nr:=true,ys:=[] }
theorem Z1o:Sound Tryz.prog 109 (Z126) :=
 Sound.shp (C:=Zfy) (fn:=Tryz.f109) (by kernel_rfl) (c:=bodyOf Tryz.f109) (by kernel_rfl) (by decide) (ctxOK mixed tbl_ok rfl trivial trivial) (SumOK.of trivial) (by kernel_rfl) Zr8 Zwp rfl (by decide) (by decide) rfl (by decide) rfl Z1l (fun x=>by kernel_rfl)
abbrev Zs3:Shape:={ sl:=[(0,(.hole y45)),(1,(.hole y5))],bl:=[],ts:=[y45,y5],pin:=0 }
abbrev Zxk:Shape:={ sl:=[(0,(.hole y5)),(1,(.hole .bool))],bl:=[],ts:=[y5,.bool],pin:=0 }
def Z3d (x:((T47 × T61) × T7)):Option (T7 × Bool) :=
 bif (decide (x.2.1 ≥ (((List.length x.1.2.1):Nat):Int))) then
 some (((0:Int),(0:Int),(0:Int)),false)
 else
 bif (inb x.2.1 (List.length x.1.2.1)) then
 bif ((getAt ((0:Int),(0:Int),(0:Int),false) x.1.2.1 (toN x.2.1)).2.2.1 != (1:Int)) then
 some (((0:Int),(0:Int),(0:Int)),false)
 else
 bif (inb x.2.1 (List.length x.1.2.1)) then
 bif (inb (getAt ((0:Int),(0:Int),(0:Int),false) x.1.2.1 (toN x.2.1)).1 (List.length x.1.1.2.2.2.2.2)) then
 bif (inb (getAt ((0:Int),(0:Int),(0:Int),false) x.1.2.1 (toN x.2.1)).2.1 (List.length (getAt ([]:List T7) x.1.1.2.2.2.2.2 (toN (getAt ((0:Int),(0:Int),(0:Int),false) x.1.2.1 (toN x.2.1)).1)))) then
 some ((getAt ((0:Int),(0:Int),(0:Int)) (getAt ([]:List T7) x.1.1.2.2.2.2.2 (toN (getAt ((0:Int),(0:Int),(0:Int),false) x.1.2.1 (toN x.2.1)).1)) (toN (getAt ((0:Int),(0:Int),(0:Int),false) x.1.2.1 (toN x.2.1)).2.1)),true)
 else
 none
 else
 none
 else
 none
 else
 none
abbrev Z131:=Spec.shp Zs3 Zxk Z3d
def Zgz:Ctx:={ tb:=mkTb T2.tbl,fx:=[],sum:=[],nt:=41,pin:=0,nr:=true,ys:=[] }
theorem Z3e:Sound Tryz.prog 116 (Z131) :=
 Sound.shp (C:=Zgz) (fn:=Tryz.f116) (by kernel_rfl) (c:=bodyOf Tryz.f116) (by kernel_rfl) (by decide) (ctxOK mixed tbl_ok rfl trivial trivial) (SumOK.of trivial) (by kernel_rfl) Zs3 Zxk rfl (by decide) (by decide) rfl (by decide) rfl Z3d (fun x=>by kernel_rfl)
abbrev Zr3:Shape:={ sl:=[(0,(.hole y45)),(1,(.hole y5)),(2,(.hole (.int .i64))),(3,(.hole .bool))],bl:=[],ts:=[y45,y5,(.int .i64),.bool],pin:=0 }
abbrev Zwk:Shape:={ sl:=sl_1,bl:=[],ts:=ts_1,pin:=0 }
def Z1c (x:((T47 × T61) × T7 × Int × Bool)):Option (Bool) :=
 (Z3d (x.1,x.2.1)).bind fun r16 =>
 bif (Bool.not r16.2) then
 some false
 else
 bif (r16.1.1 == (4:Int)) then
 bif (inb r16.1.2.1 (List.length x.1.1.2.2.2.2.1)) then
 bif (decide (x.2.1.2.1 < (((List.length (getAt (([]:List T0),false) x.1.1.2.2.2.2.1 (toN r16.1.2.1)).1):Nat):Int))) then
 bif (inb x.2.1.2.1 (List.length (getAt (([]:List T0),false) x.1.1.2.2.2.2.1 (toN r16.1.2.1)).1)) then
 some (((getAt (false,(0:Int)) (getAt (([]:List T0),false) x.1.1.2.2.2.2.1 (toN r16.1.2.1)).1 (toN x.2.1.2.1)).1 == (x.2.2.2,x.2.2.1).1) && ((getAt (false,(0:Int)) (getAt (([]:List T0),false) x.1.1.2.2.2.2.1 (toN r16.1.2.1)).1 (toN x.2.1.2.1)).2 == (x.2.2.2,x.2.2.1).2))
 else
 none
 else
 some false
 else
 none
 else
 bif x.2.2.2 then
 some ((r16.1.1 == ((1:Int),x.2.2.1,(0:Int)).1) && ((r16.1.2.1 == ((1:Int),x.2.2.1,(0:Int)).2.1) && (r16.1.2.2 == ((1:Int),x.2.2.1,(0:Int)).2.2)))
 else
 some ((r16.1.1 == ((2:Int),x.2.2.1,(0:Int)).1) && ((r16.1.2.1 == ((2:Int),x.2.2.1,(0:Int)).2.1) && (r16.1.2.2 == ((2:Int),x.2.2.1,(0:Int)).2.2)))
abbrev Z121:=Spec.shp Zr3 Zwk Z1c
def Zfr:Ctx:={ tb:=mkTb T2.tbl,fx:=[(116,[],Z131)],sum:=[],nt:=59,pin:=0,nr:=true,ys:=[] }
theorem Z1d:Sound Tryz.prog 111 (Z121) :=
 Sound.shp (C:=Zfr) (fn:=Tryz.f111) (by kernel_rfl) (c:=bodyOf Tryz.f111) (by kernel_rfl) (by decide) (ctxOK mixed tbl_ok rfl ⟨Z3e,trivial⟩ trivial) (SumOK.of trivial) (by kernel_rfl) Zr3 Zwk rfl (by decide) (by decide) rfl (by decide) rfl Z1c (fun x=>by kernel_rfl)
abbrev Zr9:Shape:={ sl:=sl_20,bl:=bl_8,ts:=[y5,y45,(.int .i64),.bool],pin:=0 }
abbrev Zwq:Shape:={ sl:=sl_1,bl:=bl_8,ts:=[.bool,y45,(.int .i64),.bool],pin:=3 }
def Z1m (x:(T7 × (T47 × T61) × Int × Bool)):Option (Bool × (T47 × T61) × Int × Bool) :=
 (Z1c (x.2.1,x.1,x.2.2.1,x.2.2.2)).bind fun r15 =>
 some ((Bool.not r15),x.2.1,x.2.2.1,x.2.2.2)
abbrev Z127:=Spec.shp Zr9 Zwq Z1m
def Zg0:Ctx:={ tb:=mkTb T2.tbl,fx:=[(111,[],Z121)],sum:=[],nt:=12,pin:=3,nr:=true,ys:=[] }
theorem Z1n:Sound Tryz.prog 110 (Z127) :=
 Sound.shp (C:=Zg0) (fn:=Tryz.f110) (by kernel_rfl) (c:=bodyOf Tryz.f110) (by kernel_rfl) (by decide) (ctxOK mixed tbl_ok rfl ⟨Z1d,trivial⟩ trivial) (SumOK.of trivial) (by kernel_rfl) Zr9 Zwq rfl (by decide) (by decide) rfl (by decide) rfl Z1m (fun x=>by kernel_rfl)
abbrev Zq8:Shape:={ sl:=[(0,(.hole (.slice y5))),(1,(.fn 110 .nil (.cons (.ptr 0 []) (.cons (.ptr 1 []) (.cons (.ptr 2 []) .nil))))),(7,(.hole (.int .i64))),(8,(.hole (.int .i64)))],bl:=bl_8,ts:=[(.slice y5),(.int .i64),(.int .i64),y45,(.int .i64),.bool],pin:=3 }
abbrev Zo9:List (ETag × Shape):=[(.ret,{ sl:=sl_3,bl:=bl_8,ts:=[(.int .i64),y45,(.int .i64),.bool],pin:=3 }),(.exit 0,{ sl:=[],bl:=bl_8,ts:=[y45,(.int .i64),.bool],pin:=3 })]
def Zel (x:(List (T7) × Int × Int × (T47 × T61) × Int × Bool)):Option ((List (T7) × Int × Int × (T47 × T61) × Int × Bool) ⊕ ((Int × (T47 × T61) × Int × Bool) ⊕ ((T47 × T61) × Int × Bool))) :=
 bif (decide (x.2.2.1 < x.2.1)) then
 bif (inb x.2.2.1 (List.length x.1)) then
 (Z1m ((getAt ((0:Int),(0:Int),(0:Int)) x.1 (toN x.2.2.1)),x.2.2.2.1,x.2.2.2.2.1,x.2.2.2.2.2)).bind fun r14 =>
 bif r14.1 then
 some (.inr (.inl (x.2.2.1,r14.2.1,r14.2.2.1,r14.2.2.2)))
 else
 some (.inl (x.1,x.2.1,(IntKind.wrap .i64 (x.2.2.1+(1:Int))),r14.2.1,r14.2.2.1,r14.2.2.2))
 else
 none
 else
 some (.inr (.inr (x.2.2.2.1,x.2.2.2.2.1,x.2.2.2.2.2)))
def Zlv:Ctx:={ tb:=mkTb T2.tbl,fx:=[(110,[],Z127)],sum:=[],nt:=19,pin:=3,nr:=true,ys:=[] }
theorem Zem:CSound Tryz.prog ⟨19,3,true⟩ (.loop (loopOf 3 Tryz.f163)) (Yat Zq8 Zo9 (loop Zel)) :=
 Y89 (C:=Zlv) (ctxOK mixed tbl_ok rfl ⟨Z1n,trivial⟩ trivial) (SumOK.of trivial) Zq8 Zo9 rfl rfl Zel (fun x=>by kernel_rfl)
abbrev Zvh:Shape:={ sl:=sl_21,bl:=bl_8,ts:=[(.slice y5),y45,(.int .i64),.bool],pin:=0 }
abbrev Z10y:Shape:={ sl:=sl_2,bl:=bl_8,ts:=[(.int .i64),y45,(.int .i64),.bool],pin:=3 }
def Za5 (x:(List (T7) × (T47 × T61) × Int × Bool)):Option (Int × (T47 × T61) × Int × Bool) :=
 (loop Zel (x.1,(((List.length x.1):Nat):Int),(0:Int),x.2.1,x.2.2.1,x.2.2.2)).bind fun r13 =>
 match r13 with
 | .inl y14 =>
 some (y14.1,y14.2.1,y14.2.2.1,y14.2.2.2)
 | .inr y14 =>
 some ((Int.negSucc 0),y14.1,y14.2.1,y14.2.2)
abbrev Z16e:=Spec.shp Zvh Z10y Za5
def Zlu:Ctx:={ tb:=mkTb T2.tbl,fx:=[(110,[],Z127)],sum:=[(0,3,Yat Zq8 Zo9 (loop Zel))],nt:=19,pin:=3,nr:=true,ys:=[] }
theorem Za6:Sound Tryz.prog 163 (Z16e) :=
 Sound.shp (C:=Zlu) (fn:=Tryz.f163) (by kernel_rfl) (c:=bodyOf Tryz.f163) (by kernel_rfl) (by decide) (ctxOK mixed tbl_ok rfl ⟨Z1n,trivial⟩ trivial) (SumOK.of ⟨(Yav (d:=.loop (loopOf 3 Tryz.f163)) (by kernel_rfl) Zem),trivial⟩) (by kernel_rfl) Zvh Z10y rfl (by decide) (by decide) rfl (by decide) rfl Za5 (fun x=>by kernel_rfl)
abbrev Zv8:Shape:={ sl:=sl_21,bl:=bl_8,ts:=[(.slice y5),y45,(.int .i64),.bool],pin:=0 }
abbrev Z10p:Shape:={ sl:=sl_1,bl:=bl_8,ts:=[.bool,y45,(.int .i64),.bool],pin:=3 }
def Z9n (x:(List (T7) × (T47 × T61) × Int × Bool)):Option (Bool × (T47 × T61) × Int × Bool) :=
 (Za5 (x.1,x.2.1,x.2.2.1,x.2.2.2)).bind fun r12 =>
 some ((decide (r12.1 ≥ (0:Int))),r12.2.1,r12.2.2.1,r12.2.2.2)
abbrev Z165:=Spec.shp Zv8 Z10p Z9n
def Zlh:Ctx:={ tb:=mkTb T2.tbl,fx:=[(163,[110],Z16e)],sum:=[],nt:=9,pin:=3,nr:=true,ys:=[] }
theorem Z9o:Sound Tryz.prog 113 (Z165) :=
 Sound.shp (C:=Zlh) (fn:=Tryz.f113) (by kernel_rfl) (c:=bodyOf Tryz.f113) (by kernel_rfl) (by decide) (ctxOK mixed tbl_ok rfl ⟨Za6,trivial⟩ trivial) (SumOK.of trivial) (by kernel_rfl) Zv8 Z10p rfl (by decide) (by decide) rfl (by decide) rfl Z9n (fun x=>by kernel_rfl)
abbrev Zon:Shape:={ sl:=[(1,(.ptr 0 [])),(3,(.ptr 1 [])),(64,(.hole y41)),(65,(.hole (.int .i64))),(66,(.hole (.int .i64)))],bl:=[.var (.hole y45),.var (.hole y39)],ts:=[y41,(.int .i64),(.int .i64),y45,y39],pin:=0 }
abbrev Zmo:List (ETag × Shape):=[(.ret,{ sl:=[(2,(.hole .bool))],bl:=[],ts:=ts_1,pin:=0 }),(.exit 0,{ sl:=[(1,(.ptr 0 []))],bl:=bl_9,ts:=[y45],pin:=0 })]
def Zbf (x:(List T43 × Int × Int × (T47 × T61) × T47)):Option ((List T43 × Int × Int × (T47 × T61) × T47) ⊕ ((Bool) ⊕ T62)) :=
 bif (decide (x.2.2.1 < x.2.1)) then
 bif (inb x.2.2.1 (List.length x.1)) then
 (Za (getAt ((0:Int),false,((0:Int),(0:Int),([]:List Int),(0:Int)),(0:Int),(0:Int),([]:List T7),([]:List T7)) x.1 (toN x.2.2.1))).bind fun r9 =>
 bif (Bool.not r9) then
 some (.inr (.inl false))
 else
 bif (inb x.2.2.1 (List.length x.2.2.2.2.1)) then
 bif ((getAt ((0:Int),false,((0:Int),(0:Int),([]:List Int),(0:Int)),(0:Int),(0:Int),([]:List T7),([]:List T7)) x.1 (toN x.2.2.1)).1 != (getAt (0:Int) x.2.2.2.2.1 (toN x.2.2.1))) then
 some (.inr (.inl false))
 else
 (Z1l (true,x.2.2.2.1,x.2.2.1)).bind fun r10 =>
 (Z9n ((getAt ((0:Int),false,((0:Int),(0:Int),([]:List Int),(0:Int)),(0:Int),(0:Int),([]:List T7),([]:List T7)) x.1 (toN x.2.2.1)).2.2.2.2.2.1,r10.1,r10.2.1,r10.2.2)).bind fun r11 =>
 bif r11.1 then
 some (.inr (.inl false))
 else
 (Z1l (false,r11.2.1,r11.2.2.1)).bind fun r12 =>
 (Z9n ((getAt ((0:Int),false,((0:Int),(0:Int),([]:List Int),(0:Int)),(0:Int),(0:Int),([]:List T7),([]:List T7)) x.1 (toN x.2.2.1)).2.2.2.2.2.2,r12.1,r12.2.1,r12.2.2)).bind fun r13 =>
 bif r13.1 then
 some (.inr (.inl false))
 else
 some (.inl (x.1,x.2.1,(IntKind.wrap .i64 (x.2.2.1+(1:Int))),r13.2.1,x.2.2.2.2))
 else
 none
 else
 none
 else
 some (.inr (.inr x.2.2.2.1))
def Zg3:Ctx:={ tb:=mkTb T2.tbl,fx:=[(38,[],Z157),(95,[107],Z163),(112,[],Z11j),(109,[],Z126),(113,[110],Z165)],sum:=[],nt:=141,pin:=0,nr:=true,ys:=[] }
theorem Zbg:CSound Tryz.prog ⟨141,0,true⟩ (.loop (loopOf 8 Tryz.f57)) (Yat Zon Zmo (loop Zbf)) :=
 Y89 (C:=Zg3) (ctxOK mixed tbl_ok rfl ⟨Z7q,Z9k,Zb,Z1o,Z9o,trivial⟩ trivial) (SumOK.of trivial) Zon Zmo rfl rfl Zbf (fun x=>by kernel_rfl)
abbrev Zqx:Shape:={ sl:=[(0,(.hole y15))],bl:=[],ts:=[y15],pin:=0 }
abbrev Zwe:Shape:={ sl:=sl_1,bl:=[],ts:=ts_1,pin:=0 }
def Z10 (x:(T18)):Option (Bool) :=
 (Zav x.2).bind fun r12 =>
 bif r12 then
 bif x.1 then
 some true
 else
 some ((((List.length x.2):Nat):Int) == (0:Int))
 else
 some false
abbrev Z11v:=Spec.shp Zqx Zwe Z10
def Zfj:Ctx:={ tb:=mkTb T2.tbl,fx:=[(161,[],Z16q)],sum:=[],nt:=16,pin:=0,nr:=true,ys:=[] }
theorem Z11:Sound Tryz.prog 117 (Z11v) :=
 Sound.shp (C:=Zfj) (fn:=Tryz.f117) (by kernel_rfl) (c:=bodyOf Tryz.f117) (by kernel_rfl) (by decide) (ctxOK mixed tbl_ok rfl ⟨Zay,trivial⟩ trivial) (SumOK.of trivial) (by kernel_rfl) Zqx Zwe rfl (by decide) (by decide) rfl (by decide) rfl Z10 (fun x=>by kernel_rfl)
abbrev Zra:Shape:={ sl:=[(0,(.hole (.int .i64))),(1,(.hole (.int .i64))),(2,(.ptr 0 []))],bl:=bl_9,ts:=[(.int .i64),(.int .i64),y45],pin:=0 }
abbrev Zwr:Shape:={ sl:=[(0,(.fn 115 .nil (.cons (.ptr 0 []) (.cons (.ptr 1 []) (.cons (.ptr 2 []) .nil)))))],bl:=bl_10,ts:=[y45,(.int .i64),(.int .i64)],pin:=1 }
def Z1p (x:(Int × Int × (T47 × T61))):Option ((T47 × T61) × Int × Int) :=
 some (x.2.2,x.1,x.2.1)
abbrev Z128:=Spec.shp Zra Zwr Z1p
def Zg1:Ctx:={ tb:=mkTb T2.tbl,fx:=[],sum:=[],nt:=7,pin:=1,nr:=true,ys:=[] }
theorem Z1s:Sound Tryz.prog 114 (Z128) :=
 Sound.shp (C:=Zg1) (fn:=Tryz.f114) (by kernel_rfl) (c:=bodyOf Tryz.f114) (by kernel_rfl) (by decide) (ctxOK mixed tbl_ok rfl trivial trivial) (SumOK.of trivial) (by kernel_rfl) Zra Zwr rfl (by decide) (by decide) rfl (by decide) rfl Z1p (fun x=>by kernel_rfl)
abbrev Zrb:Shape:={ sl:=sl_20,bl:=bl_10,ts:=[y5,y45,(.int .i64),(.int .i64)],pin:=0 }
abbrev Zws:Shape:={ sl:=sl_1,bl:=bl_10,ts:=[.bool,y45,(.int .i64),(.int .i64)],pin:=3 }
def Z1q (x:(T7 × (T47 × T61) × Int × Int)):Option (Bool × (T47 × T61) × Int × Int) :=
 (Z3d (x.2.1,x.1)).bind fun r17 =>
 bif (Bool.not r17.2) then
 some (true,x.2.1,x.2.2.1,x.2.2.2)
 else
 bif (r17.1.1 != x.2.2.1) then
 some (true,x.2.1,x.2.2.1,x.2.2.2)
 else
 some ((r17.1.2.1 != x.2.2.2),x.2.1,x.2.2.1,x.2.2.2)
abbrev Z129:=Spec.shp Zrb Zws Z1q
def Zg2:Ctx:={ tb:=mkTb T2.tbl,fx:=[(116,[],Z131)],sum:=[],nt:=28,pin:=3,nr:=true,ys:=[] }
theorem Z1r:Sound Tryz.prog 115 (Z129) :=
 Sound.shp (C:=Zg2) (fn:=Tryz.f115) (by kernel_rfl) (c:=bodyOf Tryz.f115) (by kernel_rfl) (by decide) (ctxOK mixed tbl_ok rfl ⟨Z3e,trivial⟩ trivial) (SumOK.of trivial) (by kernel_rfl) Zrb Zws rfl (by decide) (by decide) rfl (by decide) rfl Z1q (fun x=>by kernel_rfl)
abbrev Zq9:Shape:={ sl:=[(0,(.hole (.slice y5))),(1,(.fn 115 .nil (.cons (.ptr 0 []) (.cons (.ptr 1 []) (.cons (.ptr 2 []) .nil))))),(7,(.hole (.int .i64))),(8,(.hole (.int .i64)))],bl:=bl_10,ts:=[(.slice y5),(.int .i64),(.int .i64),y45,(.int .i64),(.int .i64)],pin:=3 }
abbrev Zoa:List (ETag × Shape):=[(.ret,{ sl:=sl_3,bl:=bl_10,ts:=[(.int .i64),y45,(.int .i64),(.int .i64)],pin:=3 }),(.exit 0,{ sl:=[],bl:=bl_10,ts:=[y45,(.int .i64),(.int .i64)],pin:=3 })]
def Zen (x:(List (T7) × Int × Int × (T47 × T61) × Int × Int)):Option ((List (T7) × Int × Int × (T47 × T61) × Int × Int) ⊕ ((Int × (T47 × T61) × Int × Int) ⊕ ((T47 × T61) × Int × Int))) :=
 bif (decide (x.2.2.1 < x.2.1)) then
 bif (inb x.2.2.1 (List.length x.1)) then
 (Z1q ((getAt ((0:Int),(0:Int),(0:Int)) x.1 (toN x.2.2.1)),x.2.2.2.1,x.2.2.2.2.1,x.2.2.2.2.2)).bind fun r16 =>
 bif r16.1 then
 some (.inr (.inl (x.2.2.1,r16.2.1,r16.2.2.1,r16.2.2.2)))
 else
 some (.inl (x.1,x.2.1,(IntKind.wrap .i64 (x.2.2.1+(1:Int))),r16.2.1,r16.2.2.1,r16.2.2.2))
 else
 none
 else
 some (.inr (.inr (x.2.2.2.1,x.2.2.2.2.1,x.2.2.2.2.2)))
def Zlx:Ctx:={ tb:=mkTb T2.tbl,fx:=[(115,[],Z129)],sum:=[],nt:=19,pin:=3,nr:=true,ys:=[] }
theorem Zeo:CSound Tryz.prog ⟨19,3,true⟩ (.loop (loopOf 3 Tryz.f163)) (Yat Zq9 Zoa (loop Zen)) :=
 Y89 (C:=Zlx) (ctxOK mixed tbl_ok rfl ⟨Z1r,trivial⟩ trivial) (SumOK.of trivial) Zq9 Zoa rfl rfl Zen (fun x=>by kernel_rfl)
abbrev Zvi:Shape:={ sl:=sl_22,bl:=bl_10,ts:=[(.slice y5),y45,(.int .i64),(.int .i64)],pin:=0 }
abbrev Z10z:Shape:={ sl:=sl_2,bl:=bl_10,ts:=[(.int .i64),y45,(.int .i64),(.int .i64)],pin:=3 }
def Za7 (x:(List (T7) × (T47 × T61) × Int × Int)):Option (Int × (T47 × T61) × Int × Int) :=
 (loop Zen (x.1,(((List.length x.1):Nat):Int),(0:Int),x.2.1,x.2.2.1,x.2.2.2)).bind fun r15 =>
 match r15 with
 | .inl y16 =>
 some (y16.1,y16.2.1,y16.2.2.1,y16.2.2.2)
 | .inr y16 =>
 some ((Int.negSucc 0),y16.1,y16.2.1,y16.2.2)
abbrev Z16f:=Spec.shp Zvi Z10z Za7
def Zlw:Ctx:={ tb:=mkTb T2.tbl,fx:=[(115,[],Z129)],sum:=[(0,3,Yat Zq9 Zoa (loop Zen))],nt:=19,pin:=3,nr:=true,ys:=[] }
theorem Za8:Sound Tryz.prog 163 (Z16f) :=
 Sound.shp (C:=Zlw) (fn:=Tryz.f163) (by kernel_rfl) (c:=bodyOf Tryz.f163) (by kernel_rfl) (by decide) (ctxOK mixed tbl_ok rfl ⟨Z1r,trivial⟩ trivial) (SumOK.of ⟨(Yav (d:=.loop (loopOf 3 Tryz.f163)) (by kernel_rfl) Zeo),trivial⟩) (by kernel_rfl) Zvi Z10z rfl (by decide) (by decide) rfl (by decide) rfl Za7 (fun x=>by kernel_rfl)
abbrev Zv9:Shape:={ sl:=sl_22,bl:=bl_10,ts:=[(.slice y5),y45,(.int .i64),(.int .i64)],pin:=0 }
abbrev Z10q:Shape:={ sl:=sl_1,bl:=bl_10,ts:=[.bool,y45,(.int .i64),(.int .i64)],pin:=3 }
def Z9p (x:(List (T7) × (T47 × T61) × Int × Int)):Option (Bool × (T47 × T61) × Int × Int) :=
 (Za7 (x.1,x.2.1,x.2.2.1,x.2.2.2)).bind fun r14 =>
 some ((decide (r14.1 ≥ (0:Int))),r14.2.1,r14.2.2.1,r14.2.2.2)
abbrev Z166:=Spec.shp Zv9 Z10q Z9p
def Zli:Ctx:={ tb:=mkTb T2.tbl,fx:=[(163,[115],Z16f)],sum:=[],nt:=9,pin:=3,nr:=true,ys:=[] }
theorem Z9q:Sound Tryz.prog 113 (Z166) :=
 Sound.shp (C:=Zli) (fn:=Tryz.f113) (by kernel_rfl) (c:=bodyOf Tryz.f113) (by kernel_rfl) (by decide) (ctxOK mixed tbl_ok rfl ⟨Za8,trivial⟩ trivial) (SumOK.of trivial) (by kernel_rfl) Zv9 Z10q rfl (by decide) (by decide) rfl (by decide) rfl Z9p (fun x=>by kernel_rfl)
abbrev Zol:Shape:={ sl:=[(1,(.ptr 0 [])),(7,(.fn 114 .nil (.cons (.ptr 0 []) .nil))),(102,(.hole y19)),(103,(.hole (.int .i64))),(104,(.hole (.int .i64)))],bl:=bl_9,ts:=[y19,(.int .i64),(.int .i64),y45],pin:=0 }
abbrev Zmm:List (ETag × Shape):=[(.ret,{ sl:=[(2,(.hole .bool))],bl:=[],ts:=ts_1,pin:=0 }),(.exit 2,{ sl:=[(1,(.ptr 0 [])),(7,(.fn 114 .nil (.cons (.ptr 0 []) .nil)))],bl:=bl_9,ts:=[y45],pin:=0 })]
def Zbb (x:(List (T18) × Int × Int × (T47 × T61))):Option ((List (T18) × Int × Int × (T47 × T61)) ⊕ ((Bool) ⊕ T62)) :=
 bif (decide (x.2.2.1 < x.2.1)) then
 bif (inb x.2.2.1 (List.length x.1)) then
 (Z10 (getAt (false,([]:List T7)) x.1 (toN x.2.2.1))).bind fun r11 =>
 bif (Bool.not r11) then
 some (.inr (.inl false))
 else
 (Z1p ((5:Int),x.2.2.1,x.2.2.2)).bind fun r12 =>
 (Z9p ((getAt (false,([]:List T7)) x.1 (toN x.2.2.1)).2,r12.1,r12.2.1,r12.2.2)).bind fun r13 =>
 bif r13.1 then
 some (.inr (.inl false))
 else
 some (.inl (x.1,x.2.1,(IntKind.wrap .i64 (x.2.2.1+(1:Int))),r13.2.1))
 else
 none
 else
 some (.inr (.inr x.2.2.2))
def Zfx:Ctx:={ tb:=mkTb T2.tbl,fx:=[(38,[],Z157),(95,[107],Z163),(112,[],Z11j),(109,[],Z126),(113,[110],Z165),(117,[],Z11v),(114,[],Z128),(113,[115],Z166)],sum:=[(0,8,Yat Zon Zmo (loop Zbf))],nt:=141,pin:=0,nr:=true,ys:=[] }
theorem Zbc:CSound Tryz.prog ⟨141,0,true⟩ (.loop (loopOf 16 Tryz.f57)) (Yat Zol Zmm (loop Zbb)) :=
 Y89 (C:=Zfx) (ctxOK mixed tbl_ok rfl ⟨Z7q,Z9k,Zb,Z1o,Z9o,Z11,Z1s,Z9q,trivial⟩ trivial) (SumOK.of ⟨(Yau (by kernel_rfl)),trivial⟩) Zol Zmm rfl rfl Zbb (fun x=>by kernel_rfl)
abbrev Zv3:Shape:={ sl:=sl_18,bl:=[],ts:=[(.slice y5)],pin:=0 }
abbrev Z10k:Shape:={ sl:=[(0,(.sl 0))],bl:=[.row y5],ts:=[(.slice y5)],pin:=0 }
def Z9d (x:(List (T7))):Option (List (T7)) :=
 bif (@Nat.beq (List.length x) (0:Nat)) then
 amb (
 some ([]:List T7)) (
 bif (fits ((List.length ([]:List T7))+(List.length x))) then
 some (([]:List T7)++x)
 else
 none)
 else
 bif (fits ((List.length ([]:List T7))+(List.length x))) then
 some (([]:List T7)++x)
 else
 none
abbrev Z160:=Spec.shp Zv3 Z10k Z9d
def Zlc:Ctx:={ tb:=mkTb T2.tbl,fx:=[],sum:=[],nt:=8,pin:=0,nr:=true,ys:=[] }
theorem Z9e:Sound Tryz.prog 202 (Z160) :=
 Sound.shp (C:=Zlc) (fn:=Tryz.f202) (by kernel_rfl) (c:=bodyOf Tryz.f202) (by kernel_rfl) (by decide) (ctxOK mixed tbl_ok rfl trivial trivial) (SumOK.of trivial) (by kernel_rfl) Zv3 Z10k rfl (by decide) (by decide) rfl (by decide) rfl Z9d (fun x=>by kernel_rfl)
abbrev Zvp:Shape:={ sl:=[(0,(.hole y5)),(1,(.ptr 0 []))],bl:=bl_3,ts:=[y5,(.int .i64)],pin:=0 }
abbrev Z116:Shape:={ sl:=sl_1,bl:=bl_3,ts:=[.bool,(.int .i64)],pin:=1 }
def Zak (x:(T7 × Int)):Option T0 :=
 some ((x.1.1 == x.2),x.2)
abbrev Z16m:=Spec.shp Zvp Z116 Zak
def Zm9:Ctx:={ tb:=mkTb T2.tbl,fx:=[],sum:=[],nt:=8,pin:=1,nr:=true,ys:=[] }
theorem Zal:Sound Tryz.prog 203 (Z16m) :=
 Sound.shp (C:=Zm9) (fn:=Tryz.f203) (by kernel_rfl) (c:=bodyOf Tryz.f203) (by kernel_rfl) (by decide) (ctxOK mixed tbl_ok rfl trivial trivial) (SumOK.of trivial) (by kernel_rfl) Zvp Z116 rfl (by decide) (by decide) rfl (by decide) rfl Zak (fun x=>by kernel_rfl)
theorem Zam:Sound Tryz.prog 203 (Spec.shpR Zvp Z116 Zak) :=
 Sound.shpR (fun x y h=>by have h:=Option.some.inj h; subst h; rfl) Zal
abbrev Zqa:Shape:={ sl:=[(0,(.sl 0)),(1,(.fn 203 .nil (.cons (.ptr 1 []) .nil))),(7,(.hole (.int .i64))),(8,(.hole (.int .i64)))],bl:=bl_11,ts:=[(.int .i64),(.int .i64),(.slice y5),(.int .i64)],pin:=2 }
abbrev Zob:List (ETag × Shape):=[(.ret,{ sl:=sl_3,bl:=bl_11,ts:=[(.int .i64),(.slice y5),(.int .i64)],pin:=2 }),(.exit 0,{ sl:=[],bl:=bl_11,ts:=ts_12,pin:=2 })]
def Zep (x:(Int × Int × List (T7) × Int)):Option ((Int × Int × List (T7) × Int) ⊕ ((Int × List (T7) × Int) ⊕ T15)) :=
 bif (decide (x.2.1 < x.1)) then
 bif (inb x.2.1 (List.length x.2.2.1)) then
 (Zak ((getAt ((0:Int),(0:Int),(0:Int)) x.2.2.1 (toN x.2.1)),x.2.2.2)).bind fun r21 =>
 bif r21.1 then
 some (.inr (.inl (x.2.1,x.2.2.1,x.2.2.2)))
 else
 some (.inl (x.1,(IntKind.wrap .i64 (x.2.1+(1:Int))),x.2.2.1,x.2.2.2))
 else
 none
 else
 some (.inr (.inr (x.2.2.1,x.2.2.2)))
def Zlz:Ctx:={ tb:=mkTb T2.tbl,fx:=[(203,[],Spec.shpR Zvp Z116 Zak)],sum:=[],nt:=19,pin:=2,nr:=true,ys:=[] }
theorem Zeq:CSound Tryz.prog ⟨19,2,true⟩ (.loop (loopOf 3 Tryz.f163)) (Yat Zqa Zob (loop Zep)) :=
 Y89 (C:=Zlz) (ctxOK mixed tbl_ok rfl ⟨Zam,trivial⟩ trivial) (SumOK.of trivial) Zqa Zob rfl rfl Zep (fun x=>by kernel_rfl)
abbrev Zvj:Shape:={ sl:=[(0,(.sl 0)),(1,(.fn 203 .nil (.cons (.ptr 1 []) .nil)))],bl:=bl_11,ts:=ts_12,pin:=0 }
abbrev Z110:Shape:={ sl:=sl_2,bl:=bl_11,ts:=[(.int .i64),(.slice y5),(.int .i64)],pin:=2 }
def Za9 (x:T15):Option (Int × List (T7) × Int) :=
 (loop Zep ((((List.length x.1):Nat):Int),(0:Int),x.1,x.2)).bind fun r20 =>
 match r20 with
 | .inl y21 =>
 some (y21.1,y21.2.1,y21.2.2)
 | .inr y21 =>
 some ((Int.negSucc 0),y21.1,y21.2)
abbrev Z16g:=Spec.shp Zvj Z110 Za9
def Zly:Ctx:={ tb:=mkTb T2.tbl,fx:=[(203,[],Spec.shpR Zvp Z116 Zak)],sum:=[(0,3,Yat Zqa Zob (loop Zep))],nt:=19,pin:=2,nr:=true,ys:=[] }
theorem Zaa:Sound Tryz.prog 163 (Z16g) :=
 Sound.shp (C:=Zly) (fn:=Tryz.f163) (by kernel_rfl) (c:=bodyOf Tryz.f163) (by kernel_rfl) (by decide) (ctxOK mixed tbl_ok rfl ⟨Zam,trivial⟩ trivial) (SumOK.of ⟨(Yav (d:=.loop (loopOf 3 Tryz.f163)) (by kernel_rfl) Zeq),trivial⟩) (by kernel_rfl) Zvj Z110 rfl (by decide) (by decide) rfl (by decide) rfl Za9 (fun x=>by kernel_rfl)
abbrev Zq4:Shape:={ sl:=[(0,(.sl 1)),(1,(.fn 203 .nil (.cons (.ptr 0 []) .nil))),(5,(.hole (.int .i64))),(6,(.hole (.int .i64)))],bl:=[.var (.hole (.int .i64)),.row y5],ts:=[(.int .i64),(.int .i64),(.int .i64),(.slice y5)],pin:=1 }
abbrev Zo5:List (ETag × Shape):=[(.exit 0,{ sl:=[(0,(.sl 1)),(5,(.hole (.int .i64)))],bl:=[.var (.hole (.int .i64)),.row y5],ts:=[(.int .i64),(.int .i64),(.slice y5)],pin:=1 })]
def Zed (x:(Int × Int × Int × List (T7))):Option ((Int × Int × Int × List (T7)) ⊕ (Int × Int × List (T7))) :=
 bif (decide (x.2.1 < (((List.length x.2.2.2):Nat):Int))) then
 bif (inb x.2.1 (List.length x.2.2.2)) then
 (Zak ((getAt ((0:Int),(0:Int),(0:Int)) x.2.2.2 (toN x.2.1)),x.2.2.1)).bind fun r21 =>
 bif (Bool.not r21.1) then
 bif (inb x.1 (List.length x.2.2.2)) then
 some (.inl ((IntKind.wrap .i64 (x.1+(1:Int))),(IntKind.wrap .i64 (x.2.1+(1:Int))),x.2.2.1,(List.set x.2.2.2 (toN x.1) (getAt ((0:Int),(0:Int),(0:Int)) x.2.2.2 (toN x.2.1)))))
 else
 none
 else
 some (.inl (x.1,(IntKind.wrap .i64 (x.2.1+(1:Int))),x.2.2.1,x.2.2.2))
 else
 none
 else
 some (.inr (x.1,x.2.2.1,x.2.2.2))
def Zln:Ctx:={ tb:=mkTb T2.tbl,fx:=[(163,[2000000,203],Z16g),(203,[],Spec.shpR Zvp Z116 Zak)],sum:=[],nt:=42,pin:=1,nr:=true,ys:=[] }
theorem Zee:CSound Tryz.prog ⟨42,1,true⟩ (.loop (loopOf 6 Tryz.f201)) (Yat Zq4 Zo5 (loop Zed)) :=
 Y89 (C:=Zln) (ctxOK mixed tbl_ok rfl ⟨Zaa,Zam,trivial⟩ trivial) (SumOK.of trivial) Zq4 Zo5 rfl rfl Zed (fun x=>by kernel_rfl)
abbrev Zvd:Shape:={ sl:=[(0,(.sl 1)),(1,(.fn 203 .nil (.cons (.ptr 0 []) .nil)))],bl:=[.var (.hole (.int .i64)),.row y5],ts:=[(.int .i64),(.slice y5)],pin:=0 }
abbrev Z10u:Shape:={ sl:=sl_18,bl:=bl_3,ts:=ts_12,pin:=1 }
def Z9x (x:T13):Option T15 :=
 (Za9 (x.2,x.1)).bind fun r19 =>
 bif (r19.1 == (Int.negSucc 0)) then
 some (r19.2.1,r19.2.2)
 else
 (loop Zed (r19.1,(IntKind.wrap .i64 (r19.1+(1:Int))),r19.2.2,r19.2.1)).bind fun r20 =>
 bif (sub3 r20.1 (((List.length r20.2.2):Nat):Int) (List.length r20.2.2)) then
 bif (sub3 (0:Int) r20.1 (List.length (over r20.2.2 (List.replicate ((toN (((List.length r20.2.2):Nat):Int)) - (toN r20.1)) ((0:Int),(0:Int),(0:Int))) (toN r20.1) ((toN (((List.length r20.2.2):Nat):Int)) - (toN r20.1))))) then
 some ((cut (over r20.2.2 (List.replicate ((toN (((List.length r20.2.2):Nat):Int)) - (toN r20.1)) ((0:Int),(0:Int),(0:Int))) (toN r20.1) ((toN (((List.length r20.2.2):Nat):Int)) - (toN r20.1))) (toN (0:Int)) ((toN r20.1) - (toN (0:Int)))),r20.2.1)
 else
 none
 else
 none
abbrev Z16a:=Spec.shp Zvd Z10u Z9x
def Zlm:Ctx:={ tb:=mkTb T2.tbl,fx:=[(163,[2000000,203],Z16g),(203,[],Spec.shpR Zvp Z116 Zak)],sum:=[(0,6,Yat Zq4 Zo5 (loop Zed))],nt:=42,pin:=1,nr:=true,ys:=[] }
theorem Z9y:Sound Tryz.prog 201 (Z16a) :=
 Sound.shp (C:=Zlm) (fn:=Tryz.f201) (by kernel_rfl) (c:=bodyOf Tryz.f201) (by kernel_rfl) (by decide) (ctxOK mixed tbl_ok rfl ⟨Zaa,Zam,trivial⟩ trivial) (SumOK.of ⟨(Yav (d:=.loop (loopOf 6 Tryz.f201)) (by kernel_rfl) Zee),trivial⟩) (by kernel_rfl) Zvd Z10u rfl (by decide) (by decide) rfl (by decide) rfl Z9x (fun x=>by kernel_rfl)
abbrev Zvo:Shape:={ sl:=sl_23,bl:=[],ts:=ts_12,pin:=0 }
abbrev Z115:Shape:={ sl:=sl_23,bl:=[],ts:=ts_12,pin:=0 }
def Zaj (x:T15):Option T15 :=
 (Zav x.1).bind fun r16 =>
 bif (Bool.not r16) then
 some (([]:List T7),(1:Int))
 else
 bif (decide (x.2 < (0:Int))) then
 some (([]:List T7),(1:Int))
 else
 (Z9d x.1).bind fun r17 =>
 (Z9x (x.2,r17)).bind fun r18 =>
 some (r18.1,(0:Int))
abbrev Z16l:=Spec.shp Zvo Z115 Zaj
def Zm8:Ctx:={ tb:=mkTb T2.tbl,fx:=[(161,[],Z16q),(202,[],Z160),(201,[2000000,203],Z16a)],sum:=[],nt:=17,pin:=0,nr:=true,ys:=[] }
theorem Zan:Sound Tryz.prog 164 (Z16l) :=
 Sound.shp (C:=Zm8) (fn:=Tryz.f164) (by kernel_rfl) (c:=bodyOf Tryz.f164) (by kernel_rfl) (by decide) (ctxOK mixed tbl_ok rfl ⟨Zay,Z9e,Z9y,trivial⟩ trivial) (SumOK.of trivial) (by kernel_rfl) Zvo Z115 rfl (by decide) (by decide) rfl (by decide) rfl Zaj (fun x=>by kernel_rfl)
abbrev Zs6:Shape:={ sl:=[(0,(.hole y23))],bl:=[],ts:=[y23],pin:=0 }
abbrev Zxn:Shape:={ sl:=sl_1,bl:=[],ts:=ts_1,pin:=0 }
def Z3j (x:T29):Option (Bool) :=
 bif (decide (x.2.1 < (0:Int))) then
 some false
 else
 (Zav x.2.2).bind fun r14 =>
 bif (Bool.not r14) then
 some false
 else
 bif (x.1 == (1:Int)) then
 (Zaj (x.2.2,x.2.1)).bind fun r15 =>
 some ((((List.length r15.1):Nat):Int) == (((List.length x.2.2):Nat):Int))
 else
 bif (x.1 == (0:Int)) then
 bif (x.2.1 == (0:Int)) then
 some ((((List.length x.2.2):Nat):Int) == (0:Int))
 else
 some false
 else
 bif (x.1 == (2:Int)) then
 bif (x.2.1 == (0:Int)) then
 some ((((List.length x.2.2):Nat):Int) == (0:Int))
 else
 some false
 else
 some false
abbrev Z134:=Spec.shp Zs6 Zxn Z3j
def Zh2:Ctx:={ tb:=mkTb T2.tbl,fx:=[(161,[],Z16q),(164,[],Z16l)],sum:=[],nt:=44,pin:=0,nr:=true,ys:=[] }
theorem Z3k:Sound Tryz.prog 118 (Z134) :=
 Sound.shp (C:=Zh2) (fn:=Tryz.f118) (by kernel_rfl) (c:=bodyOf Tryz.f118) (by kernel_rfl) (by decide) (ctxOK mixed tbl_ok rfl ⟨Zay,Zan,trivial⟩ trivial) (SumOK.of trivial) (by kernel_rfl) Zs6 Zxn rfl (by decide) (by decide) rfl (by decide) rfl Z3j (fun x=>by kernel_rfl)
abbrev Zom:Shape:={ sl:=[(7,(.fn 114 .nil (.cons (.ptr 0 []) .nil))),(122,(.hole y26)),(123,(.hole (.int .i64))),(124,(.hole (.int .i64)))],bl:=bl_9,ts:=[y26,(.int .i64),(.int .i64),y45],pin:=0 }
abbrev Zmn:List (ETag × Shape):=[(.ret,{ sl:=[(2,(.hole .bool))],bl:=[],ts:=ts_1,pin:=0 }),(.exit 4,{ sl:=[],bl:=[],ts:=[],pin:=0 })]
def Zbd (x:(List T29 × Int × Int × (T47 × T61))):Option ((List T29 × Int × Int × (T47 × T61)) ⊕ ((Bool) ⊕ Unit)) :=
 bif (decide (x.2.2.1 < x.2.1)) then
 bif (inb x.2.2.1 (List.length x.1)) then
 (Z3j (getAt ((0:Int),(0:Int),([]:List T7)) x.1 (toN x.2.2.1))).bind fun r13 =>
 bif (Bool.not r13) then
 some (.inr (.inl false))
 else
 (Z1p ((7:Int),x.2.2.1,x.2.2.2)).bind fun r14 =>
 (Z9p ((getAt ((0:Int),(0:Int),([]:List T7)) x.1 (toN x.2.2.1)).2.2,r14.1,r14.2.1,r14.2.2)).bind fun r15 =>
 bif r15.1 then
 some (.inr (.inl false))
 else
 some (.inl (x.1,x.2.1,(IntKind.wrap .i64 (x.2.2.1+(1:Int))),r15.2.1))
 else
 none
 else
 some (.inr (.inr ()))
def Zfz:Ctx:={ tb:=mkTb T2.tbl,fx:=[(38,[],Z157),(95,[107],Z163),(112,[],Z11j),(109,[],Z126),(113,[110],Z165),(117,[],Z11v),(114,[],Z128),(113,[115],Z166),(118,[],Z134)],sum:=[(0,8,Yat Zon Zmo (loop Zbf)),(0,16,Yat Zol Zmm (loop Zbb))],nt:=141,pin:=0,nr:=true,ys:=[] }
theorem Zbe:CSound Tryz.prog ⟨141,0,true⟩ (.loop (loopOf 22 Tryz.f57)) (Yat Zom Zmn (loop Zbd)) :=
 Y89 (C:=Zfz) (ctxOK mixed tbl_ok rfl ⟨Z7q,Z9k,Zb,Z1o,Z9o,Z11,Z1s,Z9q,Z3k,trivial⟩ trivial) (SumOK.of ⟨(Yau (by kernel_rfl)),(Yau (by kernel_rfl)),trivial⟩) Zom Zmn rfl rfl Zbd (fun x=>by kernel_rfl)
abbrev Zr6:Shape:={ sl:=[(0,(.hole y45))],bl:=[],ts:=[y45],pin:=0 }
abbrev Zwn:Shape:={ sl:=sl_1,bl:=[],ts:=ts_1,pin:=0 }
def Z1i (x:T62):Option (Bool) :=
 (Z7p x.1).bind fun r6 =>
 bif (Bool.not r6) then
 some false
 else
 bif (decide ((((List.length x.2.1):Nat):Int) < (1:Int))) then
 some false
 else
 bif (decide ((((List.length x.2.1):Nat):Int) > (8:Int))) then
 some false
 else
 bif ((((List.length x.2.2.1):Nat):Int) != (((List.length x.1.1):Nat):Int)) then
 some false
 else
 bif ((((List.length x.2.2.2.1):Nat):Int) != x.1.2.1) then
 some false
 else
 bif ((((List.length x.2.2.2.2.1):Nat):Int) != x.1.2.2.1) then
 some false
 else
 bif (decide (x.2.2.2.2.2.1 < (0:Int))) then
 some false
 else
 (Z9j (x.2.1,x.1)).bind fun r7 =>
 bif r7.1 then
 some false
 else
 (loop Zbf (x.2.2.1,(((List.length x.2.2.1):Nat):Int),(0:Int),x,r7.2)).bind fun r8 =>
 match r8 with
 | .inl y9 =>
 some y9
 | .inr y9 =>
 (loop Zbb (y9.2.2.2.1,(((List.length y9.2.2.2.1):Nat):Int),(0:Int),y9)).bind fun r10 =>
 match r10 with
 | .inl y11 =>
 some y11
 | .inr y11 =>
 (loop Zbd (y11.2.2.2.2.1,(((List.length y11.2.2.2.2.1):Nat):Int),(0:Int),y11)).bind fun r12 =>
 match r12 with
 | .inl y13 =>
 some y13
 | .inr y13 =>
 some true
abbrev Z124:=Spec.shp Zr6 Zwn Z1i
def Zfv:Ctx:={ tb:=mkTb T2.tbl,fx:=[(38,[],Z157),(95,[107],Z163),(112,[],Z11j),(109,[],Z126),(113,[110],Z165),(117,[],Z11v),(114,[],Z128),(113,[115],Z166),(118,[],Z134)],sum:=[(0,8,Yat Zon Zmo (loop Zbf)),(0,16,Yat Zol Zmm (loop Zbb)),(0,22,Yat Zom Zmn (loop Zbd))],nt:=141,pin:=0,nr:=true,ys:=[] }
theorem Z1t:Sound Tryz.prog 57 (Z124) :=
 Sound.shp (C:=Zfv) (fn:=Tryz.f57) (by kernel_rfl) (c:=bodyOf Tryz.f57) (by kernel_rfl) (by decide) (ctxOK mixed tbl_ok rfl ⟨Z7q,Z9k,Zb,Z1o,Z9o,Z11,Z1s,Z9q,Z3k,trivial⟩ trivial) (SumOK.of ⟨(Yav (d:=.loop (loopOf 8 Tryz.f57)) (by kernel_rfl) Zbg),(Yav (d:=.loop (loopOf 16 Tryz.f57)) (by kernel_rfl) Zbc),(Yav (d:=.loop (loopOf 22 Tryz.f57)) (by kernel_rfl) Zbe),trivial⟩) (by kernel_rfl) Zr6 Zwn rfl (by decide) (by decide) rfl (by decide) rfl Z1i (fun x=>by kernel_rfl)
abbrev Zqq:Shape:={ sl:=sl_15,bl:=bl_12,ts:=[y42],pin:=0 }
abbrev Zw7:Shape:={ sl:=sl_1,bl:=bl_12,ts:=[.bool,y42],pin:=1 }
def Zl (x:(T46)):Option (Bool × T46) :=
 some ((decide (x.1.1 < (0:Int))),x)
abbrev Z11o:=Spec.shp Zqq Zw7 Zl
def Zfc:Ctx:={ tb:=mkTb T2.tbl,fx:=[],sum:=[],nt:=9,pin:=1,nr:=true,ys:=[] }
theorem Zm:Sound Tryz.prog 165 (Z11o) :=
 Sound.shp (C:=Zfc) (fn:=Tryz.f165) (by kernel_rfl) (c:=bodyOf Tryz.f165) (by kernel_rfl) (by decide) (ctxOK mixed tbl_ok rfl trivial trivial) (SumOK.of trivial) (by kernel_rfl) Zqq Zw7 rfl (by decide) (by decide) rfl (by decide) rfl Zl (fun x=>by kernel_rfl)
theorem Zn:Sound Tryz.prog 165 (Spec.shpR Zqq Zw7 Zl) :=
 Sound.shpR (fun x y h=>by have h:=Option.some.inj h; subst h; rfl) Zm
abbrev Zqp:Shape:={ sl:=sl_15,bl:=bl_12,ts:=[y42],pin:=0 }
abbrev Zw6:Shape:={ sl:=sl_1,bl:=bl_12,ts:=[.bool,y42],pin:=1 }
def Zi (x:(T46)):Option (Bool × T46) :=
 some ((x.1.2.2.1.2.2.2 == x.1.2.2.1.1),x)
abbrev Z11n:=Spec.shp Zqp Zw6 Zi
def Zfb:Ctx:={ tb:=mkTb T2.tbl,fx:=[],sum:=[],nt:=16,pin:=1,nr:=true,ys:=[] }
theorem Zj:Sound Tryz.prog 166 (Z11n) :=
 Sound.shp (C:=Zfb) (fn:=Tryz.f166) (by kernel_rfl) (c:=bodyOf Tryz.f166) (by kernel_rfl) (by decide) (ctxOK mixed tbl_ok rfl trivial trivial) (SumOK.of trivial) (by kernel_rfl) Zqp Zw6 rfl (by decide) (by decide) rfl (by decide) rfl Zi (fun x=>by kernel_rfl)
theorem Zk:Sound Tryz.prog 166 (Spec.shpR Zqp Zw6 Zi) :=
 Sound.shpR (fun x y h=>by have h:=Option.some.inj h; subst h; rfl) Zj
abbrev Zvr:Shape:={ sl:=[(0,(.hole y5)),(1,(.ptr 0 []))],bl:=bl_3,ts:=[y5,(.int .i64)],pin:=0 }
abbrev Z118:Shape:={ sl:=sl_1,bl:=bl_3,ts:=[.bool,(.int .i64)],pin:=1 }
def Zap (x:(T7 × Int)):Option T0 :=
 some ((x.1.1 != x.2),x.2)
abbrev Z16o:=Spec.shp Zvr Z118 Zap
def Zmb:Ctx:={ tb:=mkTb T2.tbl,fx:=[],sum:=[],nt:=8,pin:=1,nr:=true,ys:=[] }
theorem Zaq:Sound Tryz.prog 233 (Z16o) :=
 Sound.shp (C:=Zmb) (fn:=Tryz.f233) (by kernel_rfl) (c:=bodyOf Tryz.f233) (by kernel_rfl) (by decide) (ctxOK mixed tbl_ok rfl trivial trivial) (SumOK.of trivial) (by kernel_rfl) Zvr Z118 rfl (by decide) (by decide) rfl (by decide) rfl Zap (fun x=>by kernel_rfl)
theorem Zar:Sound Tryz.prog 233 (Spec.shpR Zvr Z118 Zap) :=
 Sound.shpR (fun x y h=>by have h:=Option.some.inj h; subst h; rfl) Zaq
abbrev Zqb:Shape:={ sl:=[(0,(.hole (.slice y5))),(1,(.fn 233 .nil (.cons (.ptr 0 []) .nil))),(7,(.hole (.int .i64))),(8,(.hole (.int .i64)))],bl:=bl_3,ts:=[(.slice y5),(.int .i64),(.int .i64),(.int .i64)],pin:=1 }
abbrev Zoc:List (ETag × Shape):=[(.ret,{ sl:=sl_3,bl:=bl_3,ts:=ts_5,pin:=1 }),(.exit 0,{ sl:=[],bl:=bl_3,ts:=ts_2,pin:=1 })]
def Zer (x:(List (T7) × Int × Int × Int)):Option ((List (T7) × Int × Int × Int) ⊕ ((Int × Int) ⊕ (Int))) :=
 bif (decide (x.2.2.1 < x.2.1)) then
 bif (inb x.2.2.1 (List.length x.1)) then
 (Zap ((getAt ((0:Int),(0:Int),(0:Int)) x.1 (toN x.2.2.1)),x.2.2.2)).bind fun r18 =>
 bif r18.1 then
 some (.inr (.inl (x.2.2.1,x.2.2.2)))
 else
 some (.inl (x.1,x.2.1,(IntKind.wrap .i64 (x.2.2.1+(1:Int))),x.2.2.2))
 else
 none
 else
 some (.inr (.inr x.2.2.2))
def Zm1:Ctx:={ tb:=mkTb T2.tbl,fx:=[(233,[],Spec.shpR Zvr Z118 Zap)],sum:=[],nt:=19,pin:=1,nr:=true,ys:=[] }
theorem Zes:CSound Tryz.prog ⟨19,1,true⟩ (.loop (loopOf 3 Tryz.f163)) (Yat Zqb Zoc (loop Zer)) :=
 Y89 (C:=Zm1) (ctxOK mixed tbl_ok rfl ⟨Zar,trivial⟩ trivial) (SumOK.of trivial) Zqb Zoc rfl rfl Zer (fun x=>by kernel_rfl)
abbrev Zvk:Shape:={ sl:=[(0,(.hole (.slice y5))),(1,(.fn 233 .nil (.cons (.ptr 0 []) .nil)))],bl:=bl_3,ts:=ts_12,pin:=0 }
abbrev Z111:Shape:={ sl:=sl_2,bl:=bl_3,ts:=ts_5,pin:=1 }
def Zab (x:T15):Option (Int × Int) :=
 (loop Zer (x.1,(((List.length x.1):Nat):Int),(0:Int),x.2)).bind fun r17 =>
 match r17 with
 | .inl y18 =>
 some (y18.1,y18.2)
 | .inr y18 =>
 some ((Int.negSucc 0),y18)
abbrev Z16h:=Spec.shp Zvk Z111 Zab
def Zm0:Ctx:={ tb:=mkTb T2.tbl,fx:=[(233,[],Spec.shpR Zvr Z118 Zap)],sum:=[(0,3,Yat Zqb Zoc (loop Zer))],nt:=19,pin:=1,nr:=true,ys:=[] }
theorem Zac:Sound Tryz.prog 163 (Z16h) :=
 Sound.shp (C:=Zm0) (fn:=Tryz.f163) (by kernel_rfl) (c:=bodyOf Tryz.f163) (by kernel_rfl) (by decide) (ctxOK mixed tbl_ok rfl ⟨Zar,trivial⟩ trivial) (SumOK.of ⟨(Yav (d:=.loop (loopOf 3 Tryz.f163)) (by kernel_rfl) Zes),trivial⟩) (by kernel_rfl) Zvk Z111 rfl (by decide) (by decide) rfl (by decide) rfl Zab (fun x=>by kernel_rfl)
abbrev Zvq:Shape:={ sl:=sl_23,bl:=[],ts:=ts_12,pin:=0 }
abbrev Z117:Shape:={ sl:=[(0,(.hole y5)),(1,(.hole (.int .i64)))],bl:=[],ts:=[y5,(.int .i64)],pin:=0 }
def Zao (x:T15):Option (T7 × Int) :=
 (Zav x.1).bind fun r15 =>
 bif (Bool.not r15) then
 some (((0:Int),(0:Int),(0:Int)),(1:Int))
 else
 bif (decide (x.2 < (0:Int))) then
 some (((0:Int),(0:Int),(0:Int)),(1:Int))
 else
 (Zab (x.1,x.2)).bind fun r16 =>
 bif (decide (r16.1 < (0:Int))) then
 some (((0:Int),(0:Int),(0:Int)),(4:Int))
 else
 bif (inb r16.1 (List.length x.1)) then
 some ((getAt ((0:Int),(0:Int),(0:Int)) x.1 (toN r16.1)),(0:Int))
 else
 none
abbrev Z16n:=Spec.shp Zvq Z117 Zao
def Zma:Ctx:={ tb:=mkTb T2.tbl,fx:=[(161,[],Z16q),(163,[233],Z16h)],sum:=[],nt:=25,pin:=0,nr:=true,ys:=[] }
theorem Zas:Sound Tryz.prog 204 (Z16n) :=
 Sound.shp (C:=Zma) (fn:=Tryz.f204) (by kernel_rfl) (c:=bodyOf Tryz.f204) (by kernel_rfl) (by decide) (ctxOK mixed tbl_ok rfl ⟨Zay,Zac,trivial⟩ trivial) (SumOK.of trivial) (by kernel_rfl) Zvq Z117 rfl (by decide) (by decide) rfl (by decide) rfl Zao (fun x=>by kernel_rfl)
abbrev Zqs:Shape:={ sl:=[(0,(.ptr 0 [])),(1,(.hole (.slice y5)))],bl:=bl_12,ts:=[(.slice y5),y42],pin:=0 }
abbrev Zw9:Shape:={ sl:=sl_17,bl:=bl_12,ts:=[y5,y42],pin:=1 }
def Zq (x:(List (T7) × T46)):Option (T7 × T46) :=
 (Zao (x.1,x.2.2)).bind fun r14 =>
 bif (r14.2 != (0:Int)) then
 bif ((r14.1.1 == ((0:Int),(0:Int),(0:Int)).1) && ((r14.1.2.1 == ((0:Int),(0:Int),(0:Int)).2.1) && (r14.1.2.2 == ((0:Int),(0:Int),(0:Int)).2.2))) then
 some (((Int.negSucc 0),(0:Int),(0:Int)),x.2)
 else
 some (r14.1,x.2)
 else
 some (r14.1,x.2)
abbrev Z11q:=Spec.shp Zqs Zw9 Zq
def Zfe:Ctx:={ tb:=mkTb T2.tbl,fx:=[(204,[],Z16n)],sum:=[],nt:=27,pin:=1,nr:=true,ys:=[] }
theorem Zr:Sound Tryz.prog 167 (Z11q) :=
 Sound.shp (C:=Zfe) (fn:=Tryz.f167) (by kernel_rfl) (c:=bodyOf Tryz.f167) (by kernel_rfl) (by decide) (ctxOK mixed tbl_ok rfl ⟨Zas,trivial⟩ trivial) (SumOK.of trivial) (by kernel_rfl) Zqs Zw9 rfl (by decide) (by decide) rfl (by decide) rfl Zq (fun x=>by kernel_rfl)
abbrev Zqj:Shape:={ sl:=[(0,(.hole y40)),(1,(.hole .bool)),(2,(.hole (.int .i64)))],bl:=[],ts:=[y40,.bool,(.int .i64)],pin:=0 }
abbrev Zw0:Shape:={ sl:=[(0,(.hole .bool)),(1,(.hole (.int .i64)))],bl:=[],ts:=[.bool,(.int .i64)],pin:=0 }
def Z6 (x:((Int × T40) × Bool × Int)):Option T0 :=
 (Za x.1).bind fun r10 =>
 bif (Bool.not r10) then
 some (false,(1:Int))
 else
 bif (decide (x.2.2 < (0:Int))) then
 some (false,(1:Int))
 else
 (Zl (x.1,x.2.2)).bind fun r11 =>
 bif r11.1 then
 some (false,(0:Int))
 else
 bif x.1.2.1 then
 some (true,(0:Int))
 else
 bif x.2.1 then
 (Zi (x.1,x.2.2)).bind fun r12 =>
 bif (Bool.not r12.1) then
 some (true,(0:Int))
 else
 (Zq (x.1.2.2.2.2.2.2,x.1,x.2.2)).bind fun r13 =>
 some ((r13.1.1 != (Int.negSucc 0)),(0:Int))
 else
 bif (decide (x.1.2.2.1.2.2.2 > (0:Int))) then
 some (true,(0:Int))
 else
 (Zq (x.1.2.2.2.2.2.1,x.1,x.2.2)).bind fun r12 =>
 some ((r12.1.1 != (Int.negSucc 0)),(0:Int))
abbrev Z11h:=Spec.shp Zqj Zw0 Z6
def Zf4:Ctx:={ tb:=mkTb T2.tbl,fx:=[(112,[],Z11j),(165,[],Spec.shpR Zqq Zw7 Zl),(166,[],Spec.shpR Zqp Zw6 Zi),(167,[],Z11q)],sum:=[],nt:=63,pin:=0,nr:=true,ys:=[] }
theorem Z7:Sound Tryz.prog 119 (Z11h) :=
 Sound.shp (C:=Zf4) (fn:=Tryz.f119) (by kernel_rfl) (c:=bodyOf Tryz.f119) (by kernel_rfl) (by decide) (ctxOK mixed tbl_ok rfl ⟨Zb,Zn,Zk,Zr,trivial⟩ trivial) (SumOK.of trivial) (by kernel_rfl) Zqj Zw0 rfl (by decide) (by decide) rfl (by decide) rfl Z6 (fun x=>by kernel_rfl)
abbrev Zok:Shape:={ sl:=[(1,(.hole (.int .i64))),(2,(.ptr 0 [])),(7,(.sl 1)),(38,(.hole (.slice y2))),(39,(.hole (.int .i64))),(40,(.hole (.int .i64)))],bl:=bl_13,ts:=ts_13,pin:=0 }
abbrev Zml:List (ETag × Shape):=[(.exit 0,{ sl:=[(7,(.sl 0))],bl:=[.row y4],ts:=[(.slice y4)],pin:=0 })]
def Zb9 (x:T68):Option (T68 ⊕ (T6)) :=
 bif (decide (x.2.2.2.1 < x.2.2.1)) then
 bif (inb x.2.2.2.1 (List.length x.2.1)) then
 bif (inb (getAt (false,(0:Int)) x.2.1 (toN x.2.2.2.1)).2 (List.length x.2.2.2.2.1.2.2.1)) then
 (Z6 ((getAt ((0:Int),false,((0:Int),(0:Int),([]:List Int),(0:Int)),(0:Int),(0:Int),([]:List T7),([]:List T7)) x.2.2.2.2.1.2.2.1 (toN (getAt (false,(0:Int)) x.2.1 (toN x.2.2.2.1)).2)),(getAt (false,(0:Int)) x.2.1 (toN x.2.2.2.1)).1,x.1)).bind fun r9 =>
 bif r9.1 then
 bif (fits ((List.length x.2.2.2.2.2)+(List.length ((x.1,x.2.2.2.1) :: ([]:List (Int × Int)))))) then
 some (.inl (x.1,x.2.1,x.2.2.1,(IntKind.wrap .i64 (x.2.2.2.1+(1:Int))),x.2.2.2.2.1,(x.2.2.2.2.2++((x.1,x.2.2.2.1) :: ([]:List (Int × Int))))))
 else
 none
 else
 some (.inl (x.1,x.2.1,x.2.2.1,(IntKind.wrap .i64 (x.2.2.2.1+(1:Int))),x.2.2.2.2.1,x.2.2.2.2.2))
 else
 none
 else
 none
 else
 some (.inr x.2.2.2.2.2)
def Zfu:Ctx:={ tb:=mkTb T2.tbl,fx:=[(119,[],Z11h)],sum:=[],nt:=67,pin:=0,nr:=true,ys:=[] }
theorem Zba:CSound Tryz.prog ⟨67,0,true⟩ (.loop (loopOf 8 Tryz.f58)) (Yat Zok Zml (loop Zb9)) :=
 Y89 (C:=Zfu) (ctxOK mixed tbl_ok rfl ⟨Z7,trivial⟩ trivial) (SumOK.of trivial) Zok Zml rfl rfl Zb9 (fun x=>by kernel_rfl)
abbrev Zr5:Shape:={ sl:=[(0,(.hole y45)),(1,(.hole (.int .i64)))],bl:=[],ts:=[y45,(.int .i64)],pin:=0 }
abbrev Zwm:Shape:={ sl:=[(0,(.hole (.slice y4)))],bl:=[],ts:=[(.slice y4)],pin:=0 }
def Z1g (x:((T47 × T61) × Int)):Option T6 :=
 bif (inb x.2 (List.length x.1.2.1)) then
 bif (inb (getAt ((0:Int),(0:Int),(0:Int),false) x.1.2.1 (toN x.2)).1 (List.length x.1.1.2.2.2.2.2)) then
 bif (inb (getAt ((0:Int),(0:Int),(0:Int),false) x.1.2.1 (toN x.2)).2.1 (List.length (getAt ([]:List T7) x.1.1.2.2.2.2.2 (toN (getAt ((0:Int),(0:Int),(0:Int),false) x.1.2.1 (toN x.2)).1)))) then
 bif ((getAt ((0:Int),(0:Int),(0:Int)) (getAt ([]:List T7) x.1.1.2.2.2.2.2 (toN (getAt ((0:Int),(0:Int),(0:Int),false) x.1.2.1 (toN x.2)).1)) (toN (getAt ((0:Int),(0:Int),(0:Int),false) x.1.2.1 (toN x.2)).2.1)).1 != (4:Int)) then
 some ([]:List (Int × Int))
 else
 bif (inb (getAt ((0:Int),(0:Int),(0:Int)) (getAt ([]:List T7) x.1.1.2.2.2.2.2 (toN (getAt ((0:Int),(0:Int),(0:Int),false) x.1.2.1 (toN x.2)).1)) (toN (getAt ((0:Int),(0:Int),(0:Int),false) x.1.2.1 (toN x.2)).2.1)).2.1 (List.length x.1.1.2.2.2.2.1)) then
 (loop Zb9 (x.2,(getAt (([]:List T0),false) x.1.1.2.2.2.2.1 (toN (getAt ((0:Int),(0:Int),(0:Int)) (getAt ([]:List T7) x.1.1.2.2.2.2.2 (toN (getAt ((0:Int),(0:Int),(0:Int),false) x.1.2.1 (toN x.2)).1)) (toN (getAt ((0:Int),(0:Int),(0:Int),false) x.1.2.1 (toN x.2)).2.1)).2.1)).1,(((List.length (getAt (([]:List T0),false) x.1.1.2.2.2.2.1 (toN (getAt ((0:Int),(0:Int),(0:Int)) (getAt ([]:List T7) x.1.1.2.2.2.2.2 (toN (getAt ((0:Int),(0:Int),(0:Int),false) x.1.2.1 (toN x.2)).1)) (toN (getAt ((0:Int),(0:Int),(0:Int),false) x.1.2.1 (toN x.2)).2.1)).2.1)).1):Nat):Int),(0:Int),x.1,([]:List (Int × Int)))).bind fun r8 =>
 some r8
 else
 none
 else
 none
 else
 none
 else
 none
abbrev Z123:=Spec.shp Zr5 Zwm Z1g
def Zft:Ctx:={ tb:=mkTb T2.tbl,fx:=[(119,[],Z11h)],sum:=[(0,8,Yat Zok Zml (loop Zb9))],nt:=67,pin:=0,nr:=true,ys:=[] }
theorem Z1h:Sound Tryz.prog 58 (Z123) :=
 Sound.shp (C:=Zft) (fn:=Tryz.f58) (by kernel_rfl) (c:=bodyOf Tryz.f58) (by kernel_rfl) (by decide) (ctxOK mixed tbl_ok rfl ⟨Z7,trivial⟩ trivial) (SumOK.of ⟨(Yav (d:=.loop (loopOf 8 Tryz.f58)) (by kernel_rfl) Zba),trivial⟩) (by kernel_rfl) Zr5 Zwm rfl (by decide) (by decide) rfl (by decide) rfl Z1g (fun x=>by kernel_rfl)
abbrev Zoi:Shape:={ sl:=[(1,(.ptr 0 [])),(3,(.sl 1)),(16,(.hole y18)),(17,(.hole (.int .i64))),(18,(.hole (.int .i64)))],bl:=bl_13,ts:=[y18,(.int .i64),(.int .i64),y45,(.slice y4)],pin:=0 }
abbrev Zmj:List (ETag × Shape):=[(.exit 0,{ sl:=[(3,(.sl 0))],bl:=[.row y4],ts:=[(.slice y4)],pin:=0 })]
def Zb5 (x:T67):Option (T67 ⊕ (T6)) :=
 bif (decide (x.2.2.1 < x.2.1)) then
 bif (inb x.2.2.1 (List.length x.1)) then
 bif ((getAt ((0:Int),(0:Int),(0:Int),false) x.1 (toN x.2.2.1)).2.2.1 != (0:Int)) then
 some (.inl (x.1,x.2.1,(IntKind.wrap .i64 (x.2.2.1+(1:Int))),x.2.2.2.1,x.2.2.2.2))
 else
 (Z1g (x.2.2.2.1,x.2.2.1)).bind fun r7 =>
 bif ((((List.length r7):Nat):Int) == (0:Int)) then
 bif (fits ((List.length x.2.2.2.2)+(List.length ((x.2.2.1,(Int.negSucc 0)) :: ([]:List (Int × Int)))))) then
 some (.inl (x.1,x.2.1,(IntKind.wrap .i64 (x.2.2.1+(1:Int))),x.2.2.2.1,(x.2.2.2.2++((x.2.2.1,(Int.negSucc 0)) :: ([]:List (Int × Int))))))
 else
 none
 else
 bif (fits ((List.length x.2.2.2.2)+(List.length r7))) then
 some (.inl (x.1,x.2.1,(IntKind.wrap .i64 (x.2.2.1+(1:Int))),x.2.2.2.1,(x.2.2.2.2++r7)))
 else
 none
 else
 none
 else
 some (.inr x.2.2.2.2)
def Zfn:Ctx:={ tb:=mkTb T2.tbl,fx:=[(57,[],Z124),(58,[],Z123)],sum:=[],nt:=40,pin:=0,nr:=true,ys:=[] }
theorem Zb6:CSound Tryz.prog ⟨40,0,true⟩ (.loop (loopOf 6 Tryz.f22)) (Yat Zoi Zmj (loop Zb5)) :=
 Y89 (C:=Zfn) (ctxOK mixed tbl_ok rfl ⟨Z1t,Z1h,trivial⟩ trivial) (SumOK.of trivial) Zoi Zmj rfl rfl Zb5 (fun x=>by kernel_rfl)
abbrev Zr0:Shape:={ sl:=[(0,(.hole y45))],bl:=[],ts:=[y45],pin:=0 }
abbrev Zwh:Shape:={ sl:=[(0,(.hole (.slice y4)))],bl:=[],ts:=[(.slice y4)],pin:=0 }
def Z16 (x:T62):Option T6 :=
 (Z1i x).bind fun r5 =>
 bif (Bool.not r5) then
 some ([]:List (Int × Int))
 else
 bif (x.2.2.2.2.2.2 != (0:Int)) then
 some ([]:List (Int × Int))
 else
 (loop Zb5 (x.2.1,(((List.length x.2.1):Nat):Int),(0:Int),x,([]:List (Int × Int)))).bind fun r6 =>
 some r6
abbrev Z11y:=Spec.shp Zr0 Zwh Z16
def Zfm:Ctx:={ tb:=mkTb T2.tbl,fx:=[(57,[],Z124),(58,[],Z123)],sum:=[(0,6,Yat Zoi Zmj (loop Zb5))],nt:=40,pin:=0,nr:=true,ys:=[] }
theorem Z17:Sound Tryz.prog 22 (Z11y) :=
 Sound.shp (C:=Zfm) (fn:=Tryz.f22) (by kernel_rfl) (c:=bodyOf Tryz.f22) (by kernel_rfl) (by decide) (ctxOK mixed tbl_ok rfl ⟨Z1t,Z1h,trivial⟩ trivial) (SumOK.of ⟨(Yav (d:=.loop (loopOf 6 Tryz.f22)) (by kernel_rfl) Zb6),trivial⟩) (by kernel_rfl) Zr0 Zwh rfl (by decide) (by decide) rfl (by decide) rfl Z16 (fun x=>by kernel_rfl)
abbrev Zqe:Shape:={ sl:=[(0,(.hole (.slice y4))),(3,(.ptr 0 [])),(7,(.hole (.int .i64))),(8,(.hole (.int .i64)))],bl:=[.var (.hole y4)],ts:=[(.slice y4),(.int .i64),(.int .i64),y4],pin:=0 }
abbrev Zof:List (ETag × Shape):=[(.ret,{ sl:=sl_3,bl:=[],ts:=ts_2,pin:=0 }),(.exit 0,{ sl:=[],bl:=[],ts:=[],pin:=0 })]
def Zex (x:T11):Option (T11 ⊕ ((Int) ⊕ Unit)) :=
 bif (decide (x.2.2.1 < x.2.1)) then
 bif (inb x.2.2.1 (List.length x.1)) then
 bif ((x.2.2.2.1 == (getAt ((0:Int),(0:Int)) x.1 (toN x.2.2.1)).1) && (x.2.2.2.2 == (getAt ((0:Int),(0:Int)) x.1 (toN x.2.2.1)).2)) then
 some (.inr (.inl x.2.2.1))
 else
 some (.inl (x.1,x.2.1,(IntKind.wrap .i64 (x.2.2.1+(1:Int))),x.2.2.2))
 else
 none
 else
 some (.inr (.inr ()))
def Zm7:Ctx:={ tb:=mkTb T2.tbl,fx:=[],sum:=[],nt:=19,pin:=0,nr:=true,ys:=[] }
theorem Zey:CSound Tryz.prog ⟨19,0,true⟩ (.loop (loopOf 3 Tryz.f84)) (Yat Zqe Zof (loop Zex)) :=
 Y89 (C:=Zm7) (ctxOK mixed tbl_ok rfl trivial trivial) (SumOK.of trivial) Zqe Zof rfl rfl Zex (fun x=>by kernel_rfl)
abbrev Zvn:Shape:={ sl:=sl_24,bl:=[],ts:=[(.slice y4),y4],pin:=0 }
abbrev Z114:Shape:={ sl:=sl_2,bl:=[],ts:=ts_2,pin:=0 }
def Zah (x:(List (Int × Int) × (Int × Int))):Option (Int) :=
 (loop Zex (x.1,(((List.length x.1):Nat):Int),(0:Int),x.2)).bind fun r9 =>
 match r9 with
 | .inl y10 =>
 some y10
 | .inr y10 =>
 some (Int.negSucc 0)
abbrev Z16k:=Spec.shp Zvn Z114 Zah
def Zm6:Ctx:={ tb:=mkTb T2.tbl,fx:=[],sum:=[(0,3,Yat Zqe Zof (loop Zex))],nt:=19,pin:=0,nr:=true,ys:=[] }
theorem Zai:Sound Tryz.prog 84 (Z16k) :=
 Sound.shp (C:=Zm6) (fn:=Tryz.f84) (by kernel_rfl) (c:=bodyOf Tryz.f84) (by kernel_rfl) (by decide) (ctxOK mixed tbl_ok rfl trivial trivial) (SumOK.of ⟨(Yav (d:=.loop (loopOf 3 Tryz.f84)) (by kernel_rfl) Zey),trivial⟩) (by kernel_rfl) Zvn Z114 rfl (by decide) (by decide) rfl (by decide) rfl Zah (fun x=>by kernel_rfl)
abbrev Zvc:Shape:={ sl:=sl_24,bl:=[],ts:=[(.slice y4),y4],pin:=0 }
abbrev Z10t:Shape:={ sl:=sl_1,bl:=[],ts:=ts_1,pin:=0 }
def Z9v (x:(List (Int × Int) × (Int × Int))):Option (Bool) :=
 (Zah (x.1,x.2)).bind fun r8 =>
 some (decide (r8 ≥ (0:Int)))
abbrev Z169:=Spec.shp Zvc Z10t Z9v
def Zll:Ctx:={ tb:=mkTb T2.tbl,fx:=[(84,[],Z16k)],sum:=[],nt:=9,pin:=0,nr:=true,ys:=[] }
theorem Z9w:Sound Tryz.prog 59 (Z169) :=
 Sound.shp (C:=Zll) (fn:=Tryz.f59) (by kernel_rfl) (c:=bodyOf Tryz.f59) (by kernel_rfl) (by decide) (ctxOK mixed tbl_ok rfl ⟨Zai,trivial⟩ trivial) (SumOK.of trivial) (by kernel_rfl) Zvc Z10t rfl (by decide) (by decide) rfl (by decide) rfl Z9v (fun x=>by kernel_rfl)
abbrev Zv0:Shape:={ sl:=[(0,(.hole y18))],bl:=[],ts:=[y18],pin:=0 }
abbrev Z10h:Shape:={ sl:=[(0,(.sl 0))],bl:=[.row y12],ts:=[y18],pin:=0 }
def Z97 (x:(List (T17))):Option (List (T17)) :=
 bif (@Nat.beq (List.length x) (0:Nat)) then
 amb (
 some ([]:List T17)) (
 bif (fits ((List.length ([]:List T17))+(List.length x))) then
 some (([]:List T17)++x)
 else
 none)
 else
 bif (fits ((List.length ([]:List T17))+(List.length x))) then
 some (([]:List T17)++x)
 else
 none
abbrev Z15x:=Spec.shp Zv0 Z10h Z97
def Zl9:Ctx:={ tb:=mkTb T2.tbl,fx:=[],sum:=[],nt:=8,pin:=0,nr:=true,ys:=[] }
theorem Z98:Sound Tryz.prog 60 (Z15x) :=
 Sound.shp (C:=Zl9) (fn:=Tryz.f60) (by kernel_rfl) (c:=bodyOf Tryz.f60) (by kernel_rfl) (by decide) (ctxOK mixed tbl_ok rfl trivial trivial) (SumOK.of trivial) (by kernel_rfl) Zv0 Z10h rfl (by decide) (by decide) rfl (by decide) rfl Z97 (fun x=>by kernel_rfl)
abbrev Zuz:Shape:={ sl:=[(0,(.hole y41))],bl:=[],ts:=[y41],pin:=0 }
abbrev Z10g:Shape:={ sl:=[(0,(.sl 0))],bl:=[.row y40],ts:=[y41],pin:=0 }
def Z95 (x:(List T43)):Option (List T43) :=
 bif (@Nat.beq (List.length x) (0:Nat)) then
 amb (
 some ([]:List (Int × T41))) (
 bif (fits ((List.length ([]:List (Int × T41)))+(List.length x))) then
 some (([]:List (Int × T41))++x)
 else
 none)
 else
 bif (fits ((List.length ([]:List (Int × T41)))+(List.length x))) then
 some (([]:List (Int × T41))++x)
 else
 none
abbrev Z15w:=Spec.shp Zuz Z10g Z95
def Zl8:Ctx:={ tb:=mkTb T2.tbl,fx:=[],sum:=[],nt:=8,pin:=0,nr:=true,ys:=[] }
theorem Z96:Sound Tryz.prog 61 (Z15w) :=
 Sound.shp (C:=Zl8) (fn:=Tryz.f61) (by kernel_rfl) (c:=bodyOf Tryz.f61) (by kernel_rfl) (by decide) (ctxOK mixed tbl_ok rfl trivial trivial) (SumOK.of trivial) (by kernel_rfl) Zuz Z10g rfl (by decide) (by decide) rfl (by decide) rfl Z95 (fun x=>by kernel_rfl)
abbrev Zv1:Shape:={ sl:=[(0,(.hole y19))],bl:=[],ts:=[y19],pin:=0 }
abbrev Z10i:Shape:={ sl:=[(0,(.sl 0))],bl:=[.row y15],ts:=[y19],pin:=0 }
def Z99 (x:(List (T18))):Option (List (T18)) :=
 bif (@Nat.beq (List.length x) (0:Nat)) then
 amb (
 some ([]:List T22)) (
 bif (fits ((List.length ([]:List T22))+(List.length x))) then
 some (([]:List T22)++x)
 else
 none)
 else
 bif (fits ((List.length ([]:List T22))+(List.length x))) then
 some (([]:List T22)++x)
 else
 none
abbrev Z15y:=Spec.shp Zv1 Z10i Z99
def Zla:Ctx:={ tb:=mkTb T2.tbl,fx:=[],sum:=[],nt:=8,pin:=0,nr:=true,ys:=[] }
theorem Z9a:Sound Tryz.prog 62 (Z15y) :=
 Sound.shp (C:=Zla) (fn:=Tryz.f62) (by kernel_rfl) (c:=bodyOf Tryz.f62) (by kernel_rfl) (by decide) (ctxOK mixed tbl_ok rfl trivial trivial) (SumOK.of trivial) (by kernel_rfl) Zv1 Z10i rfl (by decide) (by decide) rfl (by decide) rfl Z99 (fun x=>by kernel_rfl)
abbrev Zv2:Shape:={ sl:=[(0,(.hole y26))],bl:=[],ts:=[y26],pin:=0 }
abbrev Z10j:Shape:={ sl:=[(0,(.sl 0))],bl:=[.row y23],ts:=[y26],pin:=0 }
def Z9b (x:(List T29)):Option (List T29) :=
 bif (@Nat.beq (List.length x) (0:Nat)) then
 amb (
 some ([]:List (Int × T14))) (
 bif (fits ((List.length ([]:List (Int × T14)))+(List.length x))) then
 some (([]:List (Int × T14))++x)
 else
 none)
 else
 bif (fits ((List.length ([]:List (Int × T14)))+(List.length x))) then
 some (([]:List (Int × T14))++x)
 else
 none
abbrev Z15z:=Spec.shp Zv2 Z10j Z9b
def Zlb:Ctx:={ tb:=mkTb T2.tbl,fx:=[],sum:=[],nt:=8,pin:=0,nr:=true,ys:=[] }
theorem Z9c:Sound Tryz.prog 63 (Z15z) :=
 Sound.shp (C:=Zlb) (fn:=Tryz.f63) (by kernel_rfl) (c:=bodyOf Tryz.f63) (by kernel_rfl) (by decide) (ctxOK mixed tbl_ok rfl trivial trivial) (SumOK.of trivial) (by kernel_rfl) Zv2 Z10j rfl (by decide) (by decide) rfl (by decide) rfl Z9b (fun x=>by kernel_rfl)
abbrev Zri:Shape:={ sl:=sl_25,bl:=bl_2,ts:=ts_10,pin:=0 }
abbrev Zwz:Shape:={ sl:=sl_17,bl:=bl_2,ts:=[y5,y39,y4,y18,y41,y19,y26,y27],pin:=1 }
def Z26 (x:T58):Option (T7 × T47 × (Int × Int) × List (T17) × List T43 × List (T18) × List T29 × List (T20)) :=
 bif (inb x.1 (List.length x.2.2.2.1)) then
 bif (inb (getAt ((0:Int),(0:Int),(0:Int),false) x.2.2.2.1 (toN x.1)).1 (List.length x.2.1.2.2.2.2.2)) then
 bif (inb (getAt ((0:Int),(0:Int),(0:Int),false) x.2.2.2.1 (toN x.1)).2.1 (List.length (getAt ([]:List T7) x.2.1.2.2.2.2.2 (toN (getAt ((0:Int),(0:Int),(0:Int),false) x.2.2.2.1 (toN x.1)).1)))) then
 some ((getAt ((0:Int),(0:Int),(0:Int)) (getAt ([]:List T7) x.2.1.2.2.2.2.2 (toN (getAt ((0:Int),(0:Int),(0:Int),false) x.2.2.2.1 (toN x.1)).1)) (toN (getAt ((0:Int),(0:Int),(0:Int),false) x.2.2.2.1 (toN x.1)).2.1)),x.2.1,x.2.2.1,x.2.2.2.1,x.2.2.2.2.1,x.2.2.2.2.2.1,x.2.2.2.2.2.2.1,x.2.2.2.2.2.2.2)
 else
 none
 else
 none
 else
 none
abbrev Z12g:=Spec.shp Zri Zwz Z26
def Zgc:Ctx:={ tb:=mkTb T2.tbl,fx:=[],sum:=[],nt:=28,pin:=1,nr:=true,ys:=[] }
theorem Z27:Sound Tryz.prog 78 (Z12g) :=
 Sound.shp (C:=Zgc) (fn:=Tryz.f78) (by kernel_rfl) (c:=bodyOf Tryz.f78) (by kernel_rfl) (by decide) (ctxOK mixed tbl_ok rfl trivial trivial) (SumOK.of trivial) (by kernel_rfl) Zri Zwz rfl (by decide) (by decide) rfl (by decide) rfl Z26 (fun x=>by kernel_rfl)
abbrev Zrg:Shape:={ sl:=sl_25,bl:=bl_2,ts:=ts_10,pin:=0 }
abbrev Zwx:Shape:={ sl:=[],bl:=bl_2,ts:=ts_11,pin:=1 }
def Z22 (x:T58):Option T57 :=
 bif (inb x.1 (List.length x.2.2.2.1)) then
 (Z24 (x.1,(IntKind.wrap .i64 ((getAt ((0:Int),(0:Int),(0:Int),false) x.2.2.2.1 (toN x.1)).2.1+(1:Int))),x.2.1,x.2.2.1,x.2.2.2.1,x.2.2.2.2.1,x.2.2.2.2.2.1,x.2.2.2.2.2.2.1,x.2.2.2.2.2.2.2)).bind fun r15 =>
 some (r15.1,r15.2.1,r15.2.2.1,r15.2.2.2.1,r15.2.2.2.2.1,r15.2.2.2.2.2.1,r15.2.2.2.2.2.2)
 else
 none
abbrev Z12e:=Spec.shp Zrg Zwx Z22
def Zga:Ctx:={ tb:=mkTb T2.tbl,fx:=[(41,[],Z12f)],sum:=[],nt:=17,pin:=1,nr:=true,ys:=[] }
theorem Z23:Sound Tryz.prog 120 (Z12e) :=
 Sound.shp (C:=Zga) (fn:=Tryz.f120) (by kernel_rfl) (c:=bodyOf Tryz.f120) (by kernel_rfl) (by decide) (ctxOK mixed tbl_ok rfl ⟨Z25,trivial⟩ trivial) (SumOK.of trivial) (by kernel_rfl) Zrg Zwx rfl (by decide) (by decide) rfl (by decide) rfl Z22 (fun x=>by kernel_rfl)
abbrev Zrm:Shape:={ sl:=sl_26,bl:=bl_2,ts:=ts_14,pin:=0 }
abbrev Zx3:Shape:={ sl:=[],bl:=bl_2,ts:=ts_11,pin:=1 }
def Z2e (x:T60):Option T57 :=
 (Z22 (x.1.1,x.2.2.1,x.2.2.2.1,x.2.2.2.2.1,x.2.2.2.2.2.1,x.2.2.2.2.2.2.1,x.2.2.2.2.2.2.2.1,x.2.2.2.2.2.2.2.2)).bind fun r14 =>
 some (r14.1,r14.2.1,r14.2.2.1,r14.2.2.2.1,r14.2.2.2.2.1,r14.2.2.2.2.2.1,r14.2.2.2.2.2.2)
abbrev Z12k:=Spec.shp Zrm Zx3 Z2e
def Zgg:Ctx:={ tb:=mkTb T2.tbl,fx:=[(120,[],Z12e)],sum:=[],nt:=10,pin:=1,nr:=true,ys:=[] }
theorem Z2f:Sound Tryz.prog 64 (Z12k) :=
 Sound.shp (C:=Zgg) (fn:=Tryz.f64) (by kernel_rfl) (c:=bodyOf Tryz.f64) (by kernel_rfl) (by decide) (ctxOK mixed tbl_ok rfl ⟨Z23,trivial⟩ trivial) (SumOK.of trivial) (by kernel_rfl) Zrm Zx3 rfl (by decide) (by decide) rfl (by decide) rfl Z2e (fun x=>by kernel_rfl)
abbrev Zqn:Shape:={ sl:=sl_17,bl:=[],ts:=[y5],pin:=0 }
abbrev Zw4:Shape:={ sl:=sl_1,bl:=[],ts:=ts_1,pin:=0 }
def Ze (x:(T7)):Option (Bool) :=
 bif (decide (x.1 ≥ (0:Int))) then
 bif (decide (x.2.1 ≥ (0:Int))) then
 some (decide (x.2.2 ≥ (0:Int)))
 else
 some false
 else
 some false
abbrev Z11l:=Spec.shp Zqn Zw4 Ze
def Zf8:Ctx:={ tb:=mkTb T2.tbl,fx:=[],sum:=[],nt:=16,pin:=0,nr:=true,ys:=[] }
theorem Zf:Sound Tryz.prog 206 (Z11l) :=
 Sound.shp (C:=Zf8) (fn:=Tryz.f206) (by kernel_rfl) (c:=bodyOf Tryz.f206) (by kernel_rfl) (by decide) (ctxOK mixed tbl_ok rfl trivial trivial) (SumOK.of trivial) (by kernel_rfl) Zqn Zw4 rfl (by decide) (by decide) rfl (by decide) rfl Ze (fun x=>by kernel_rfl)
abbrev Zqr:Shape:={ sl:=sl_25,bl:=bl_12,ts:=[(.int .i64),y42],pin:=0 }
abbrev Zw8:Shape:={ sl:=[],bl:=bl_12,ts:=[y42],pin:=1 }
def Zo (x:(Int × T46)):Option (T46) :=
 (Zaj (x.2.1.2.2.2.2.2.1,x.1)).bind fun r23 =>
 (Zaj (x.2.1.2.2.2.2.2.2,x.1)).bind fun r24 =>
 some ((x.2.1.1,x.2.1.2.1,x.2.1.2.2.1,x.2.1.2.2.2.1,x.2.1.2.2.2.2.1,r23.1,r24.1),x.2.2)
abbrev Z11p:=Spec.shp Zqr Zw8 Zo
def Zfd:Ctx:={ tb:=mkTb T2.tbl,fx:=[(164,[],Z16l)],sum:=[],nt:=32,pin:=1,nr:=true,ys:=[] }
theorem Zp:Sound Tryz.prog 205 (Z11p) :=
 Sound.shp (C:=Zfd) (fn:=Tryz.f205) (by kernel_rfl) (c:=bodyOf Tryz.f205) (by kernel_rfl) (by decide) (ctxOK mixed tbl_ok rfl ⟨Zan,trivial⟩ trivial) (SumOK.of trivial) (by kernel_rfl) Zqr Zw8 rfl (by decide) (by decide) rfl (by decide) rfl Zo (fun x=>by kernel_rfl)
abbrev Zqt:Shape:={ sl:=sl_15,bl:=bl_12,ts:=[y42],pin:=0 }
abbrev Zwa:Shape:={ sl:=sl_2,bl:=bl_12,ts:=[(.int .i64),y42],pin:=1 }
def Zs (x:(T46)):Option (Int × T46) :=
 some (x.1.2.2.2.1,(x.1.1,x.1.2.1,x.1.2.2.1,(IntKind.wrap .i64 (x.1.2.2.2.1+(1:Int))),(IntKind.wrap .i64 (x.1.2.2.2.2.1+(1:Int))),x.1.2.2.2.2.2),x.2)
abbrev Z11r:=Spec.shp Zqt Zwa Zs
def Zff:Ctx:={ tb:=mkTb T2.tbl,fx:=[],sum:=[],nt:=28,pin:=1,nr:=true,ys:=[] }
theorem Zt:Sound Tryz.prog 209 (Z11r) :=
 Sound.shp (C:=Zff) (fn:=Tryz.f209) (by kernel_rfl) (c:=bodyOf Tryz.f209) (by kernel_rfl) (by decide) (ctxOK mixed tbl_ok rfl trivial trivial) (SumOK.of trivial) (by kernel_rfl) Zqt Zwa rfl (by decide) (by decide) rfl (by decide) rfl Zs (fun x=>by kernel_rfl)
abbrev Zv4:Shape:={ sl:=[(0,(.hole y0))],bl:=[],ts:=[y0],pin:=0 }
abbrev Z10l:Shape:={ sl:=[(0,(.sl 0))],bl:=bl_14,ts:=[y0],pin:=0 }
def Z9f (x:(List Int)):Option (List Int) :=
 bif (@Nat.beq (List.length x) (0:Nat)) then
 amb (
 some ([]:List Int)) (
 bif (fits ((List.length ([]:List Int))+(List.length x))) then
 some (([]:List Int)++x)
 else
 none)
 else
 bif (fits ((List.length ([]:List Int))+(List.length x))) then
 some (([]:List Int)++x)
 else
 none
abbrev Z161:=Spec.shp Zv4 Z10l Z9f
def Zld:Ctx:={ tb:=mkTb T2.tbl,fx:=[],sum:=[],nt:=8,pin:=0,nr:=true,ys:=[] }
theorem Z9g:Sound Tryz.prog 238 (Z161) :=
 Sound.shp (C:=Zld) (fn:=Tryz.f238) (by kernel_rfl) (c:=bodyOf Tryz.f238) (by kernel_rfl) (by decide) (ctxOK mixed tbl_ok rfl trivial trivial) (SumOK.of trivial) (by kernel_rfl) Zv4 Z10l rfl (by decide) (by decide) rfl (by decide) rfl Z9f (fun x=>by kernel_rfl)
abbrev Zuy:Shape:={ sl:=[(0,(.one (.pr (.hole (.int .i64)) (.pr (.hole (.int .i64)) (.pr (.sl 0) (.hole (.int .i64))))))),(1,(.hole (.int .i64)))],bl:=bl_14,ts:=[(.int .i64),(.int .i64),(.int .i64),(.int .i64),y0],pin:=0 }
abbrev Z10f:Shape:={ sl:=sl_2,bl:=bl_14,ts:=[(.int .i64),y0],pin:=1 }
def Z92 (x:(Int × Int × Int × Int × List Int)):Option T3 :=
 bif (x.1 != (0:Int)) then
 some ((Int.tmod (IntKind.wrap .i64 (x.2.1+x.2.2.2.1)) x.1),x.2.2.2.2)
 else
 none
abbrev Z15v:=Spec.shp Zuy Z10f Z92
def Zl7:Ctx:={ tb:=mkTb T2.tbl,fx:=[],sum:=[],nt:=14,pin:=1,nr:=true,ys:=[] }
theorem Z93:Sound Tryz.prog 232 (Z15v) :=
 Sound.shp (C:=Zl7) (fn:=Tryz.f232) (by kernel_rfl) (c:=bodyOf Tryz.f232) (by kernel_rfl) (by decide) (ctxOK mixed tbl_ok rfl trivial trivial) (SumOK.of trivial) (by kernel_rfl) Zuy Z10f rfl (by decide) (by decide) rfl (by decide) rfl Z92 (fun x=>by kernel_rfl)
abbrev Zut:Shape:={ sl:=sl_12,bl:=[],ts:=[y21,(.int .i64)],pin:=0 }
abbrev Z10a:Shape:={ sl:=sl_12,bl:=[],ts:=[y21,(.int .i64)],pin:=0 }
def Z8t (x:(T16 × Int)):Option (T16 × Int) :=
 (Z8v x.1).bind fun r25 =>
 bif (Bool.not r25) then
 some (((0:Int),(0:Int),([]:List Int),(0:Int)),(1:Int))
 else
 bif (x.1.2.2.2 == x.1.1) then
 some (((0:Int),(0:Int),([]:List Int),(0:Int)),(5:Int))
 else
 (Z9f x.1.2.2.1).bind fun r26 =>
 (Z92 (x.1.1,x.1.2.1,x.1.2.2.2,x.1.2.2.2,r26)).bind fun r27 =>
 bif (inb r27.1 (List.length r27.2)) then
 some ((x.1.1,x.1.2.1,(List.set r27.2 (toN r27.1) x.2),(IntKind.wrap .i64 (x.1.2.2.2+(1:Int)))),(0:Int))
 else
 none
abbrev Z15q:=Spec.shp Zut Z10a Z8t
def Zl1:Ctx:={ tb:=mkTb T2.tbl,fx:=[(196,[],Z15r),(238,[],Z161),(232,[2000000],Z15v)],sum:=[],nt:=38,pin:=0,nr:=true,ys:=[] }
theorem Z8u:Sound Tryz.prog 235 (Z15q) :=
 Sound.shp (C:=Zl1) (fn:=Tryz.f235) (by kernel_rfl) (c:=bodyOf Tryz.f235) (by kernel_rfl) (by decide) (ctxOK mixed tbl_ok rfl ⟨Z8w,Z9g,Z93,trivial⟩ trivial) (SumOK.of trivial) (by kernel_rfl) Zut Z10a rfl (by decide) (by decide) rfl (by decide) rfl Z8t (fun x=>by kernel_rfl)
abbrev Zqv:Shape:={ sl:=sl_15,bl:=bl_12,ts:=[y42],pin:=0 }
abbrev Zwc:Shape:={ sl:=sl_2,bl:=bl_12,ts:=[(.int .i64),y42],pin:=1 }
def Zw (x:(T46)):Option (Int × T46) :=
 (Z8t (x.1.2.2.1,x.1.2.2.2.1)).bind fun r24 =>
 some (x.1.2.2.2.1,(x.1.1,x.1.2.1,r24.1,(IntKind.wrap .i64 (x.1.2.2.2.1+(1:Int))),x.1.2.2.2.2),x.2)
abbrev Z11t:=Spec.shp Zqv Zwc Zw
def Zfh:Ctx:={ tb:=mkTb T2.tbl,fx:=[(235,[],Z15q)],sum:=[],nt:=33,pin:=1,nr:=true,ys:=[] }
theorem Zx:Sound Tryz.prog 208 (Z11t) :=
 Sound.shp (C:=Zfh) (fn:=Tryz.f208) (by kernel_rfl) (c:=bodyOf Tryz.f208) (by kernel_rfl) (by decide) (ctxOK mixed tbl_ok rfl ⟨Z8u,trivial⟩ trivial) (SumOK.of trivial) (by kernel_rfl) Zqv Zwc rfl (by decide) (by decide) rfl (by decide) rfl Zw (fun x=>by kernel_rfl)
abbrev Zvs:Shape:={ sl:=[(0,(.hole (.slice y5))),(1,(.hole y5))],bl:=[],ts:=[(.slice y5),y5],pin:=0 }
abbrev Z119:Shape:={ sl:=sl_23,bl:=[],ts:=ts_12,pin:=0 }
def Zat (x:(List (T7) × T7)):Option T15 :=
 (Zav x.1).bind fun r24 =>
 bif (Bool.not r24) then
 some (([]:List T7),(1:Int))
 else
 (Zaz x.2).bind fun r25 =>
 bif (Bool.not r25) then
 some (([]:List T7),(1:Int))
 else
 (Zb1 x.1).bind fun r26 =>
 bif (decide ((@mlook (Int × Int) (Int) (Ty.beq y4) (Ty.zero (.int .i64)) (x.2.1,x.2.2.1) r26) > (0:Int))) then
 some (([]:List T7),(7:Int))
 else
 bif ((((List.length x.1):Nat):Int) == (64:Int)) then
 some (([]:List T7),(5:Int))
 else
 (Z9d x.1).bind fun r27 =>
 bif (fits ((List.length r27)+(List.length (x.2 :: ([]:List T7))))) then
 some ((r27++(x.2 :: ([]:List T7))),(0:Int))
 else
 none
abbrev Z16p:=Spec.shp Zvs Z119 Zat
def Zmc:Ctx:={ tb:=mkTb T2.tbl,fx:=[(161,[],Z16q),(199,[],Z16s),(200,[],Z16t),(202,[],Z160)],sum:=[],nt:=34,pin:=0,nr:=true,ys:=[] }
theorem Zau:Sound Tryz.prog 171 (Z16p) :=
 Sound.shp (C:=Zmc) (fn:=Tryz.f171) (by kernel_rfl) (c:=bodyOf Tryz.f171) (by kernel_rfl) (by decide) (ctxOK mixed tbl_ok rfl ⟨Zay,Zb0,Zb2,Z9e,trivial⟩ trivial) (SumOK.of trivial) (by kernel_rfl) Zvs Z119 rfl (by decide) (by decide) rfl (by decide) rfl Zat (fun x=>by kernel_rfl)
end
end Go.Proofs.YthdlpkdojipfhaaGreat.VX.VxM_M

