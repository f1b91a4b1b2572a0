/- Laid for the law RunTells. -/
import Derived.Test.YthdlpkdojipfhaaGreatRunTellsE15
import Derived.Test.YthdlpkdojipfhaaGreatRunTellsE16
set_option linter.unusedVariables false
set_option maxRecDepth 100000
namespace Go.Proofs.YthdlpkdojipfhaaGreat.VX.VxM_M
open Go.Proofs Go.Proofs.YthdlpkdojipfhaaGreat.VX.T2
noncomputable section
theorem mixed:Tryz.prog.follows .mixedOrders=true:=by kernel_rfl
abbrev T0:=Bool × Int
abbrev T1:=Int × Bool
abbrev T2:=List Int × Int
abbrev T3:=Int × List Int
abbrev T4:=Int × Int × Int
abbrev T5:=(List Int) × Int
abbrev T6:=List (Int × Int)
abbrev T7:=Int × (Int × Int)
abbrev T8:=(Int × Int) × Int
abbrev T9:=List Int × Int × Int
abbrev T10:=List Int × List Int × Int × Int
abbrev T11:=List (Int × Int) × Int × Int × (Int × Int)
abbrev T12:=List T0 × Bool
abbrev T13:=Int × List (T7)
abbrev T14:=Int × (List T7)
abbrev T15:=List (T7) × Int
abbrev T16:=Int × (Int × T2)
abbrev T17:=Int × (Int × T1)
abbrev T18:=Bool × List (T7)
abbrev T19:=Int × (Int × T5)
abbrev T20:=Int × (Int × T7)
abbrev T21:=(List T0) × Bool
abbrev T22:=Bool × (List T7)
abbrev T23:=Int × (T7 × Int)
abbrev T24:=List (T7) × List (T7)
abbrev T25:=(List T7) × (List T7)
abbrev T26:=List (T7) × List (T7) × Int × Int
abbrev T29:=(Int × T13)
abbrev T30:=(Int × T13) × T7
abbrev T31:=Int × (Int × T24)
abbrev T32:=Int × (Int × T25)
abbrev T33:=Int × T16 × List Int
abbrev T34:=(Int × T13) × Int × Int
abbrev T35:=List (T12) × List (List (T7))
abbrev T36:=List (T20) × List (Int × Int)
abbrev T39:=Int × (Int × T35)
abbrev T40:=Bool × (T16 × T31)
abbrev T41:=Bool × (T19 × T32)
abbrev T42:=List T29 × (Int × Int)
abbrev T43:=(Int × T40)
abbrev T44:=List (T18) × T42
abbrev T45:=(Int × T40) × T7
abbrev T46:=(Int × T40) × Int
abbrev T47:=List Int × (Int × T39)
abbrev T48:=(Int × T40) × (Int × T23) × Int
abbrev T49:=List T43 × T44
abbrev T50:=T47 × List (T7)
abbrev T51:=T47 × List Int × Int
abbrev T53:=List (T12) × Int × Int × T47
abbrev T54:=List (List (T7)) × Int × Int × T47
abbrev T55:=List (T12) × Int × Int × T47 × Int × Int × Int × List (T12)
abbrev T56:=Int × List (T7) × List (List (T7)) × Int × Int × List (T7) × Int × Int × T47
abbrev T57:=T47 × (Int × Int) × List (T17) × List T43 × List (T18) × List T29 × List (T20)
abbrev T58:=Int × T47 × (Int × Int) × List (T17) × List T43 × List (T18) × List T29 × List (T20)
abbrev T59:=List (List (T7)) × Int × Int × T47 × Int × Int × Int × List (T12) × List (List (T7))
abbrev T60:=(Int × Int) × T7 × T47 × (Int × Int) × List (T17) × List T43 × List (T18) × List T29 × List (T20)
abbrev T61:=List (T17) × T49
abbrev T62:=(T47 × T61)
abbrev T63:=(T47 × T61) × List (T20)
abbrev T67:=List (T17) × Int × Int × (T47 × T61) × List (Int × Int)
abbrev T68:=Int × List T0 × Int × Int × (T47 × T61) × List (Int × Int)
abbrev T69:=T63 × Int × T7
abbrev y0:Ty:=.slice (.int .i64)
abbrev y1:Ty:=.arr 8 (.int .i64)
abbrev y2:Ty:=.pair .bool (.int .i64)
abbrev y3:Ty:=.pair (.int .i64) .bool
abbrev y4:Ty:=.pair (.int .i64) (.int .i64)
abbrev y5:Ty:=.pair (.int .i64) y4
abbrev y6:Ty:=.pair y0 (.int .i64)
abbrev y7:Ty:=.pair (.int .i64) y3
abbrev y8:Ty:=.pair y4 (.int .i64)
abbrev y9:Ty:=.pair (.slice y2) .bool
abbrev y10:Ty:=.slice (.slice y5)
abbrev y11:Ty:=.pair (.int .i64) y6
abbrev y12:Ty:=.pair (.int .i64) y7
abbrev y13:Ty:=.pair (.int .i64) y5
abbrev y14:Ty:=.pair y5 (.int .i64)
abbrev y15:Ty:=.pair .bool (.slice y5)
abbrev y16:Ty:=.pair (.slice y5) (.slice y5)
abbrev y17:Ty:=.pair (.int .i64) (.slice y5)
abbrev y18:Ty:=.slice y12
abbrev y19:Ty:=.slice y15
abbrev y20:Ty:=.pair (.slice y9) y10
abbrev y21:Ty:=.pair (.int .i64) y11
abbrev y22:Ty:=.pair (.int .i64) y16
abbrev y23:Ty:=.pair (.int .i64) y17
abbrev y24:Ty:=.pair (.int .i64) y13
abbrev y25:Ty:=.pair (.int .i64) y14
abbrev y26:Ty:=.slice y23
abbrev y27:Ty:=.slice y24
abbrev y28:Ty:=.pair (.int .i64) y20
abbrev y29:Ty:=.pair (.int .i64) y22
abbrev y30:Ty:=.pair (.int .i64) y25
abbrev y31:Ty:=.pair y26 y4
abbrev y32:Ty:=.pair y21 y29
abbrev y33:Ty:=.pair (.int .i64) y28
abbrev y34:Ty:=.pair y27 (.slice y4)
abbrev y35:Ty:=.pair y19 y31
abbrev y36:Ty:=.pair .bool y32
abbrev y37:Ty:=.pair (.int .i64) y33
abbrev y38:Ty:=.pair (.int .i64) y34
abbrev y39:Ty:=.pair y0 y37
abbrev y40:Ty:=.pair (.int .i64) y36
abbrev y41:Ty:=.slice y40
abbrev y42:Ty:=.pair y40 (.int .i64)
abbrev y43:Ty:=.pair y41 y35
abbrev y44:Ty:=.pair y18 y43
abbrev y45:Ty:=.pair y39 y44
abbrev y46:Ty:=.pair y45 y27
abbrev bl_0:List BPat:=[.var (.hole y39)]
abbrev bl_1:List BPat:=[.var (.pr (.pr .nl (.pr (.hole (.int .i64)) (.pr (.hole (.int .i64)) (.pr (.hole (.int .i64)) (.pr .nl .nl))))) (.pr .nl (.pr .nl (.pr .nl (.pr .nl (.hole y4)))))),.var (.pr (.hole y39) (.pr (.sl 2) (.pr (.sl 3) (.pr (.sl 4) (.pr (.sl 5) (.hole y4)))))),.row y12,.row y40,.row y15,.row y23]
abbrev bl_2:List BPat:=[.var (.pr (.pr (.hole y39) (.pr (.sl 1) (.pr (.sl 2) (.pr (.sl 3) (.pr (.sl 4) (.hole y4)))))) (.sl 5)),.row y12,.row y40,.row y15,.row y23,.row y24]
abbrev bl_3:List BPat:=[.var (.hole (.int .i64))]
abbrev bl_4:List BPat:=[.row y12,.var (.hole (.int .i64))]
abbrev bl_5:List BPat:=[.var (.ptr 1 []),.var (.pr (.pr (.hole y39) (.pr (.sl 2) (.pr (.sl 3) (.pr (.sl 4) (.pr (.sl 5) (.hole y4)))))) (.sl 6)),.row y12,.row y40,.row y15,.row y23,.row y24]
abbrev bl_6:List BPat:=[.lp 10485766 [4] (.cons (.ptr 2 []) .nil),.var (.hole (.one y21)),.var (.sl 3),.row (.int .i64)]
abbrev bl_7:List BPat:=[.lpt 10485766 [4] (.cons (.ptr 2 []) .nil),.var (.hole (.one y21)),.var (.sl 3),.row (.int .i64)]
abbrev bl_8:List BPat:=[.var (.hole y45),.var (.hole (.int .i64)),.var (.hole .bool)]
abbrev bl_9:List BPat:=[.var (.hole y45)]
abbrev bl_10:List BPat:=[.var (.hole y45),.var (.hole (.int .i64)),.var (.hole (.int .i64))]
abbrev bl_11:List BPat:=[.row y5,.var (.hole (.int .i64))]
abbrev bl_12:List BPat:=[.var (.hole y42)]
abbrev bl_13:List BPat:=[.var (.hole y45),.row y4]
abbrev bl_14:List BPat:=[.row (.int .i64)]
abbrev bl_15:List BPat:=[.var (.pr (.pr (.hole y39) (.pr (.sl 2) (.pr (.sl 3) (.pr (.sl 4) (.pr (.sl 5) (.hole y4)))))) (.sl 6)),.var (.hole y4),.row y12,.row y40,.row y15,.row y23,.row y24]
abbrev bl_18:List BPat:=[.var (.hole y39),.var (.pr .nl (.pr (.hole (.int .i64)) (.pr (.hole (.int .i64)) (.pr (.hole (.int .i64)) (.pr .nl .nl))))),.row y9]
abbrev bl_19:List BPat:=[.var (.hole y39),.var (.pr .nl (.pr (.hole (.int .i64)) (.pr (.hole (.int .i64)) (.pr (.hole (.int .i64)) (.pr .nl .nl))))),.row y9,.row (.slice y5)]
abbrev bl_21:List BPat:=[.var (.pr (.hole (.int .i64)) (.pr (.hole .bool) (.pr (.pr (.hole (.int .i64)) (.pr (.hole (.int .i64)) (.pr .nl (.hole (.int .i64))))) (.pr (.hole (.int .i64)) (.pr (.hole (.int .i64)) (.pr .nl .nl)))))),.var (.pr (.hole (.int .i64)) (.pr (.hole .bool) (.pr (.pr (.hole (.int .i64)) (.pr (.hole (.int .i64)) (.pr (.sl 2) (.hole (.int .i64))))) (.pr (.hole (.int .i64)) (.pr (.hole (.int .i64)) (.pr .nl .nl)))))),.row (.int .i64)]
abbrev bl_22:List BPat:=[.var (.hole y39),.var (.pr (.pr .nl (.pr (.hole (.int .i64)) (.pr (.hole (.int .i64)) (.pr (.hole (.int .i64)) (.pr .nl .nl))))) (.pr .nl (.pr .nl (.pr .nl (.pr .nl (.hole y4)))))),.var (.pr (.hole y39) (.pr (.sl 3) (.pr (.sl 4) (.pr .nl (.pr .nl (.hole y4)))))),.row y12,.row y40]
abbrev bl_23:List BPat:=[.var (.hole y39),.var (.pr (.pr .nl (.pr (.hole (.int .i64)) (.pr (.hole (.int .i64)) (.pr (.hole (.int .i64)) (.pr .nl .nl))))) (.pr .nl (.pr .nl (.pr .nl (.pr .nl (.hole y4)))))),.var (.pr (.hole y39) (.pr (.sl 3) (.pr (.sl 4) (.pr (.sl 5) (.pr .nl (.hole y4)))))),.row y12,.row y40,.row y15]
abbrev bl_24:List BPat:=[.var (.hole y45),.var (.pr (.pr .nl (.pr (.hole (.int .i64)) (.pr (.hole (.int .i64)) (.pr (.hole (.int .i64)) (.pr .nl .nl))))) (.pr .nl (.pr .nl (.pr .nl (.pr .nl (.hole y4))))))]
abbrev bl_26:List BPat:=[.var (.pr (.hole (.int .i64)) (.pr (.hole (.int .i64)) (.pr .nl (.hole (.int .i64))))),.var (.pr (.hole (.int .i64)) (.pr (.hole (.int .i64)) (.pr (.sl 2) (.hole (.int .i64))))),.row (.int .i64)]
abbrev bl_27:List BPat:=[.var (.hole y46),.var (.pr (.pr (.pr .nl (.pr (.hole (.int .i64)) (.pr (.hole (.int .i64)) (.pr (.hole (.int .i64)) (.pr .nl .nl))))) (.pr .nl (.pr .nl (.pr .nl (.pr .nl (.hole y4)))))) .nl),.row y40]
abbrev bl_28:List BPat:=[.var (.hole y46),.var (.hole y5),.var (.pr (.pr (.pr .nl (.pr (.hole (.int .i64)) (.pr (.hole (.int .i64)) (.pr (.hole (.int .i64)) (.pr .nl .nl))))) (.pr .nl (.pr .nl (.pr .nl (.pr .nl (.hole y4)))))) .nl)]
abbrev bl_29:List BPat:=[.var (.hole y46),.var (.pr (.pr (.pr .nl (.pr (.hole (.int .i64)) (.pr (.hole (.int .i64)) (.pr (.hole (.int .i64)) (.pr .nl .nl))))) (.pr .nl (.pr .nl (.pr .nl (.pr .nl (.hole y4)))))) .nl)]
abbrev bl_31:List BPat:=[.var (.hole (.one y0)),.var (.pr (.hole (.int .i64)) (.pr .nl .nl)),.var (.hole y45),.var (.pr (.hole (.int .i64)) (.pr (.sl 5) (.sl 6))),.row (.int .i64),.row y24,.row y4]
abbrev bl_32:List BPat:=[.var (.pr (.pr (.hole (.int .i64)) (.pr .nl .nl)) .nl),.var (.hole y45),.row y24,.row y4,.row (.int .i64)]
abbrev ts_0:List Ty:=[(.int .i64),(.int .i64),(.int .i64)]
abbrev ts_1:List Ty:=[.bool]
abbrev ts_2:List Ty:=[(.int .i64)]
abbrev ts_3:List Ty:=[y0,(.int .i64),(.int .i64)]
abbrev ts_4:List Ty:=[(.slice y9),(.int .i64),(.int .i64),y39]
abbrev ts_5:List Ty:=[(.int .i64),(.int .i64)]
abbrev ts_6:List Ty:=[y39,(.slice y5)]
abbrev ts_7:List Ty:=[(.int .i64),(.slice y5),y10,(.int .i64),(.int .i64),(.slice y5),(.int .i64),(.int .i64),y39]
abbrev ts_8:List Ty:=[y10,(.int .i64),(.int .i64),y39]
abbrev ts_9:List Ty:=[(.int .i64),(.int .i64),(.int .i64),y4,y39,y4,y18,y41,y19,y26]
abbrev ts_10:List Ty:=[(.int .i64),y39,y4,y18,y41,y19,y26,y27]
abbrev ts_11:List Ty:=[y39,y4,y18,y41,y19,y26,y27]
abbrev ts_12:List Ty:=[(.slice y5),(.int .i64)]
abbrev ts_13:List Ty:=[(.int .i64),(.slice y2),(.int .i64),(.int .i64),y45,(.slice y4)]
abbrev ts_14:List Ty:=[y4,y5,y39,y4,y18,y41,y19,y26,y27]
abbrev ts_15:List Ty:=[y23,(.int .i64),(.int .i64)]
abbrev ts_16:List Ty:=[(.slice y9),(.int .i64),(.int .i64),y39,(.int .i64),(.int .i64),(.int .i64),(.slice y9)]
abbrev ts_17:List Ty:=[y10,(.int .i64),(.int .i64),y39,(.int .i64),(.int .i64),(.int .i64),(.slice y9),y10]
abbrev ts_18:List Ty:=[y46,(.int .i64),y5]
abbrev sl_0:List (Nat × Pat):=[(0,(.hole (.int .i64))),(1,(.hole (.int .i64))),(2,(.hole (.int .i64)))]
abbrev sl_1:List (Nat × Pat):=[(0,(.hole .bool))]
abbrev sl_2:List (Nat × Pat):=[(0,(.hole (.int .i64)))]
abbrev sl_3:List (Nat × Pat):=[(4,(.hole (.int .i64)))]
abbrev sl_4:List (Nat × Pat):=[(0,(.hole (.slice y2))),(1,(.fn 194 .nil (.cons (.ptr 0 []) .nil)))]
abbrev sl_5:List (Nat × Pat):=[(2,(.hole (.int .i64))),(3,(.hole (.int .i64)))]
abbrev sl_6:List (Nat × Pat):=[(0,(.hole y39))]
abbrev sl_7:List (Nat × Pat):=[(0,(.hole (.int .i64))),(1,(.hole (.int .i64)))]
abbrev sl_8:List (Nat × Pat):=[(0,(.hole y39)),(1,(.hole (.slice y5)))]
abbrev sl_9:List (Nat × Pat):=[(1,(.ptr 0 [])),(7,(.hole (.int .i64))),(8,(.hole (.slice y5))),(22,(.hole y10)),(23,(.hole (.int .i64))),(24,(.hole (.int .i64))),(33,(.hole (.slice y5))),(34,(.hole (.int .i64))),(35,(.hole (.int .i64)))]
abbrev sl_10:List (Nat × Pat):=[(2,(.hole (.int .i64))),(3,(.hole (.int .i64))),(4,(.hole (.int .i64)))]
abbrev sl_11:List (Nat × Pat):=[(1,(.ptr 0 [])),(22,(.hole y10)),(23,(.hole (.int .i64))),(24,(.hole (.int .i64)))]
abbrev sl_12:List (Nat × Pat):=[(0,(.hole y21)),(1,(.hole (.int .i64)))]
abbrev sl_13:List (Nat × Pat):=[(0,(.hole y40)),(1,(.hole (.int .i64)))]
abbrev sl_14:List (Nat × Pat):=[(0,(.ptr 0 [])),(1,(.hole (.int .i64))),(2,(.hole (.int .i64)))]
abbrev sl_15:List (Nat × Pat):=[(0,(.ptr 0 []))]
abbrev sl_16:List (Nat × Pat):=[(0,(.hole y0)),(1,(.hole (.int .i64)))]
abbrev sl_17:List (Nat × Pat):=[(0,(.hole y5))]
abbrev sl_18:List (Nat × Pat):=[(0,(.hole (.slice y5)))]
abbrev sl_19:List (Nat × Pat):=[(0,(.hole y0)),(1,(.hole (.int .i64))),(2,(.hole (.int .i64)))]
abbrev sl_20:List (Nat × Pat):=[(0,(.hole y5)),(1,(.ptr 0 [])),(2,(.ptr 1 [])),(3,(.ptr 2 []))]
abbrev sl_21:List (Nat × Pat):=[(0,(.hole (.slice y5))),(1,(.fn 110 .nil (.cons (.ptr 0 []) (.cons (.ptr 1 []) (.cons (.ptr 2 []) .nil)))))]
abbrev sl_22:List (Nat × Pat):=[(0,(.hole (.slice y5))),(1,(.fn 115 .nil (.cons (.ptr 0 []) (.cons (.ptr 1 []) (.cons (.ptr 2 []) .nil)))))]
abbrev sl_23:List (Nat × Pat):=[(0,(.hole (.slice y5))),(1,(.hole (.int .i64)))]
abbrev sl_24:List (Nat × Pat):=[(0,(.hole (.slice y4))),(1,(.hole y4))]
abbrev sl_25:List (Nat × Pat):=[(0,(.ptr 0 [])),(1,(.hole (.int .i64)))]
abbrev sl_26:List (Nat × Pat):=[(0,(.ptr 0 [])),(1,(.hole y4)),(2,(.hole y5))]
abbrev sl_27:List (Nat × Pat):=[(0,(.hole y40)),(1,(.hole y5))]
abbrev sl_28:List (Nat × Pat):=[(0,(.hole y40)),(1,(.hole y30)),(2,(.hole (.int .i64)))]
abbrev sl_29:List (Nat × Pat):=[(0,(.ptr 0 [])),(1,(.hole y5)),(2,(.hole (.int .i64))),(3,(.hole .bool))]
abbrev sl_30:List (Nat × Pat):=[(0,(.hole y23)),(1,(.hole y5))]
abbrev sl_31:List (Nat × Pat):=[(0,(.hole y23)),(1,(.hole (.int .i64))),(2,(.hole (.int .i64)))]
abbrev sl_32:List (Nat × Pat):=[(1,(.ptr 0 [])),(2,(.ptr 1 [])),(3,(.sl 2)),(23,(.hole (.slice y9))),(24,(.hole (.int .i64))),(25,(.hole (.int .i64)))]
abbrev sl_33:List (Nat × Pat):=[(1,(.ptr 0 [])),(2,(.ptr 1 [])),(3,(.sl 2)),(6,(.sl 3)),(48,(.hole y10)),(49,(.hole (.int .i64))),(50,(.hole (.int .i64)))]
abbrev sl_34:List (Nat × Pat):=[(1,(.ptr 0 [])),(27,(.hole (.slice y9))),(28,(.hole (.int .i64))),(29,(.hole (.int .i64)))]
abbrev sl_35:List (Nat × Pat):=[(4,(.hole .bool))]
abbrev sl_37:List (Nat × Pat):=[(2,(.ptr 0 [])),(3,(.ptr 1 []))]
abbrev sl_39:List (Nat × Pat):=[(0,(.hole y46))]
abbrev sl_40:List (Nat × Pat):=[(3,(.ptr 0 [])),(6,(.ptr 1 [])),(7,(.sl 2))]
abbrev sl_41:List (Nat × Pat):=[(0,(.hole y46)),(1,(.hole (.int .i64)))]
abbrev sl_42:List (Nat × Pat):=[(0,(.hole y46)),(1,(.hole (.int .i64))),(2,(.hole y5))]
abbrev sl_43:List (Nat × Pat):=[(0,(.hole y39)),(1,(.hole y0)),(2,(.hole (.int .i64)))]
abbrev Zs3:Shape:={ sl:=sl_0,bl:=[],ts:=ts_0,pin:=0 }
abbrev Zxg:Shape:={ sl:=sl_1,bl:=[],ts:=ts_1,pin:=0 }
def Z7f (x:T4):Option (Bool) :=
 bif (decide (x.1 ≥ x.2.1)) then
 some (decide (x.1 ≤ x.2.2))
 else
 some false
abbrev Z12t:=Spec.shp Zs3 Zxg Z7f
def Zj3:Ctx:={ tb:=mkTb T2.tbl,fx:=[],sum:=[],nt:=15,pin:=0,nr:=true,ys:=[] }
theorem Z7g:Sound Tryz.prog 191 (Z12t) :=
 Sound.shp (C:=Zj3) (fn:=Tryz.f191) (by kernel_rfl) (c:=bodyOf Tryz.f191) (by kernel_rfl) (by decide) (ctxOK mixed tbl_ok rfl trivial trivial) (SumOK.of trivial) (by kernel_rfl) Zs3 Zxg rfl (by decide) (by decide) rfl (by decide) rfl Z7f (fun x=>by kernel_rfl)
abbrev Zsc:Shape:={ sl:=sl_2,bl:=[],ts:=ts_2,pin:=0 }
abbrev Zxp:Shape:={ sl:=sl_1,bl:=[],ts:=ts_1,pin:=0 }
def Z7w (x:(Int)):Option (Bool) :=
 (Z7f (x,(Int.negSucc 0),(3:Int))).bind fun r14 =>
 some (Bool.not r14)
abbrev Z132:=Spec.shp Zsc Zxp Z7w
def Zjc:Ctx:={ tb:=mkTb T2.tbl,fx:=[(191,[],Z12t)],sum:=[],nt:=6,pin:=0,nr:=true,ys:=[] }
theorem Z7x:Sound Tryz.prog 192 (Z132) :=
 Sound.shp (C:=Zjc) (fn:=Tryz.f192) (by kernel_rfl) (c:=bodyOf Tryz.f192) (by kernel_rfl) (by decide) (ctxOK mixed tbl_ok rfl ⟨Z7g,trivial⟩ trivial) (SumOK.of trivial) (by kernel_rfl) Zsc Zxp rfl (by decide) (by decide) rfl (by decide) rfl Z7w (fun x=>by kernel_rfl)
abbrev Zod:Shape:={ sl:=[(0,(.hole y0)),(1,(.fn 192 .nil .nil)),(7,(.hole (.int .i64))),(8,(.hole (.int .i64)))],bl:=[],ts:=ts_3,pin:=0 }
abbrev Zmr:List (ETag × Shape):=[(.ret,{ sl:=sl_3,bl:=[],ts:=ts_2,pin:=0 }),(.exit 0,{ sl:=[],bl:=[],ts:=[],pin:=0 })]
def Ze2 (x:T9):Option (T9 ⊕ ((Int) ⊕ Unit)) :=
 bif (decide (x.2.2 < x.2.1)) then
 bif (inb x.2.2 (List.length x.1)) then
 (Z7w (getAt (0:Int) x.1 (toN x.2.2))).bind fun r13 =>
 bif r13 then
 some (.inr (.inl x.2.2))
 else
 some (.inl (x.1,x.2.1,(IntKind.wrap .i64 (x.2.2+(1:Int)))))
 else
 none
 else
 some (.inr (.inr ()))
def Zkv:Ctx:={ tb:=mkTb T2.tbl,fx:=[(192,[],Z132)],sum:=[],nt:=19,pin:=0,nr:=true,ys:=[] }
theorem Ze3:CSound Tryz.prog ⟨19,0,true⟩ (.loop (loopOf 3 Tryz.f140)) (Yay Zod Zmr (loop Ze2)) :=
 Y8c (C:=Zkv) (ctxOK mixed tbl_ok rfl ⟨Z7x,trivial⟩ trivial) (SumOK.of trivial) Zod Zmr rfl rfl Ze2 (fun x=>by kernel_rfl)
abbrev Zti:Shape:={ sl:=[(0,(.hole y0)),(1,(.fn 192 .nil .nil))],bl:=[],ts:=[y0],pin:=0 }
abbrev Zyv:Shape:={ sl:=sl_2,bl:=[],ts:=ts_2,pin:=0 }
def Za9 (x:(List Int)):Option (Int) :=
 (loop Ze2 (x,(((List.length x):Nat):Int),(0:Int))).bind fun r12 =>
 match r12 with
 | .inl y13 =>
 some y13
 | .inr y13 =>
 some (Int.negSucc 0)
abbrev Z147:=Spec.shp Zti Zyv Za9
def Zku:Ctx:={ tb:=mkTb T2.tbl,fx:=[(192,[],Z132)],sum:=[(0,3,Yay Zod Zmr (loop Ze2))],nt:=19,pin:=0,nr:=true,ys:=[] }
theorem Zaa:Sound Tryz.prog 140 (Z147) :=
 Sound.shp (C:=Zku) (fn:=Tryz.f140) (by kernel_rfl) (c:=bodyOf Tryz.f140) (by kernel_rfl) (by decide) (ctxOK mixed tbl_ok rfl ⟨Z7x,trivial⟩ trivial) (SumOK.of ⟨(Yb0 (d:=.loop (loopOf 3 Tryz.f140)) (by kernel_rfl) Ze3),trivial⟩) (by kernel_rfl) Zti Zyv rfl (by decide) (by decide) rfl (by decide) rfl Za9 (fun x=>by kernel_rfl)
abbrev Zt7:Shape:={ sl:=[(0,(.hole y0)),(1,(.fn 192 .nil .nil))],bl:=[],ts:=[y0],pin:=0 }
abbrev Zyk:Shape:={ sl:=sl_1,bl:=[],ts:=ts_1,pin:=0 }
def Z9n (x:(List Int)):Option (Bool) :=
 (Za9 x).bind fun r11 =>
 some (decide (r11 ≥ (0:Int)))
abbrev Z13w:=Spec.shp Zt7 Zyk Z9n
def Zka:Ctx:={ tb:=mkTb T2.tbl,fx:=[(140,[192],Z147)],sum:=[],nt:=9,pin:=0,nr:=true,ys:=[] }
theorem Z9o:Sound Tryz.prog 86 (Z13w) :=
 Sound.shp (C:=Zka) (fn:=Tryz.f86) (by kernel_rfl) (c:=bodyOf Tryz.f86) (by kernel_rfl) (by decide) (ctxOK mixed tbl_ok rfl ⟨Zaa,trivial⟩ trivial) (SumOK.of trivial) (by kernel_rfl) Zt7 Zyk rfl (by decide) (by decide) rfl (by decide) rfl Z9n (fun x=>by kernel_rfl)
abbrev Zsd:Shape:={ sl:=[(0,(.hole y2)),(1,(.ptr 0 []))],bl:=bl_0,ts:=[y2,y39],pin:=0 }
abbrev Zxq:Shape:={ sl:=sl_1,bl:=bl_0,ts:=[.bool,y39],pin:=1 }
def Z7y (x:(T0 × T47)):Option (Bool × T47) :=
 (Z7f (x.1.2,(0:Int),(IntKind.wrap .i64 ((((List.length x.2.1):Nat):Int) - (1:Int))))).bind fun r16 =>
 some ((Bool.not r16),x.2)
abbrev Z133:=Spec.shp Zsd Zxq Z7y
def Zjd:Ctx:={ tb:=mkTb T2.tbl,fx:=[(191,[],Z12t)],sum:=[],nt:=12,pin:=1,nr:=true,ys:=[] }
theorem Z7z:Sound Tryz.prog 194 (Z133) :=
 Sound.shp (C:=Zjd) (fn:=Tryz.f194) (by kernel_rfl) (c:=bodyOf Tryz.f194) (by kernel_rfl) (by decide) (ctxOK mixed tbl_ok rfl ⟨Z7g,trivial⟩ trivial) (SumOK.of trivial) (by kernel_rfl) Zsd Zxq rfl (by decide) (by decide) rfl (by decide) rfl Z7y (fun x=>by kernel_rfl)
abbrev Zo5:Shape:={ sl:=[(0,(.hole (.slice y2))),(1,(.fn 194 .nil (.cons (.ptr 0 []) .nil))),(7,(.hole (.int .i64))),(8,(.hole (.int .i64)))],bl:=bl_0,ts:=[(.slice y2),(.int .i64),(.int .i64),y39],pin:=1 }
abbrev Zmj:List (ETag × Shape):=[(.ret,{ sl:=sl_3,bl:=bl_0,ts:=[(.int .i64),y39],pin:=1 }),(.exit 0,{ sl:=[],bl:=bl_0,ts:=[y39],pin:=1 })]
def Zdm (x:(List T0 × Int × Int × T47)):Option ((List T0 × Int × Int × T47) ⊕ ((Int × T47) ⊕ (T47))) :=
 bif (decide (x.2.2.1 < x.2.1)) then
 bif (inb x.2.2.1 (List.length x.1)) then
 (Z7y ((getAt (false,(0:Int)) x.1 (toN x.2.2.1)),x.2.2.2)).bind fun r15 =>
 bif r15.1 then
 some (.inr (.inl (x.2.2.1,r15.2)))
 else
 some (.inl (x.1,x.2.1,(IntKind.wrap .i64 (x.2.2.1+(1:Int))),r15.2))
 else
 none
 else
 some (.inr (.inr x.2.2.2))
def Zkf:Ctx:={ tb:=mkTb T2.tbl,fx:=[(194,[],Z133)],sum:=[],nt:=19,pin:=1,nr:=true,ys:=[] }
theorem Zdn:CSound Tryz.prog ⟨19,1,true⟩ (.loop (loopOf 3 Tryz.f222)) (Yay Zo5 Zmj (loop Zdm)) :=
 Y8c (C:=Zkf) (ctxOK mixed tbl_ok rfl ⟨Z7z,trivial⟩ trivial) (SumOK.of trivial) Zo5 Zmj rfl rfl Zdm (fun x=>by kernel_rfl)
abbrev Zta:Shape:={ sl:=sl_4,bl:=bl_0,ts:=[(.slice y2),y39],pin:=0 }
abbrev Zyn:Shape:={ sl:=sl_2,bl:=bl_0,ts:=[(.int .i64),y39],pin:=1 }
def Z9t (x:(List T0 × T47)):Option (Int × T47) :=
 (loop Zdm (x.1,(((List.length x.1):Nat):Int),(0:Int),x.2)).bind fun r14 =>
 match r14 with
 | .inl y15 =>
 some (y15.1,y15.2)
 | .inr y15 =>
 some ((Int.negSucc 0),y15)
abbrev Z13z:=Spec.shp Zta Zyn Z9t
def Zke:Ctx:={ tb:=mkTb T2.tbl,fx:=[(194,[],Z133)],sum:=[(0,3,Yay Zo5 Zmj (loop Zdm))],nt:=19,pin:=1,nr:=true,ys:=[] }
theorem Z9u:Sound Tryz.prog 222 (Z13z) :=
 Sound.shp (C:=Zke) (fn:=Tryz.f222) (by kernel_rfl) (c:=bodyOf Tryz.f222) (by kernel_rfl) (by decide) (ctxOK mixed tbl_ok rfl ⟨Z7z,trivial⟩ trivial) (SumOK.of ⟨(Yb0 (d:=.loop (loopOf 3 Tryz.f222)) (by kernel_rfl) Zdn),trivial⟩) (by kernel_rfl) Zta Zyn rfl (by decide) (by decide) rfl (by decide) rfl Z9t (fun x=>by kernel_rfl)
abbrev Zt1:Shape:={ sl:=sl_4,bl:=bl_0,ts:=[(.slice y2),y39],pin:=0 }
abbrev Zye:Shape:={ sl:=sl_1,bl:=bl_0,ts:=[.bool,y39],pin:=1 }
def Z9b (x:(List T0 × T47)):Option (Bool × T47) :=
 (Z9t (x.1,x.2)).bind fun r13 =>
 some ((decide (r13.1 ≥ (0:Int))),r13.2)
abbrev Z13q:=Spec.shp Zt1 Zye Z9b
def Zk4:Ctx:={ tb:=mkTb T2.tbl,fx:=[(222,[194],Z13z)],sum:=[],nt:=9,pin:=1,nr:=true,ys:=[] }
theorem Z9c:Sound Tryz.prog 193 (Z13q) :=
 Sound.shp (C:=Zk4) (fn:=Tryz.f193) (by kernel_rfl) (c:=bodyOf Tryz.f193) (by kernel_rfl) (by decide) (ctxOK mixed tbl_ok rfl ⟨Z9u,trivial⟩ trivial) (SumOK.of trivial) (by kernel_rfl) Zt1 Zye rfl (by decide) (by decide) rfl (by decide) rfl Z9b (fun x=>by kernel_rfl)
abbrev Zo1:Shape:={ sl:=[(1,(.ptr 0 [])),(45,(.hole (.slice y9))),(46,(.hole (.int .i64))),(47,(.hole (.int .i64)))],bl:=bl_0,ts:=ts_4,pin:=0 }
abbrev Zmf:List (ETag × Shape):=[(.ret,{ sl:=sl_5,bl:=[],ts:=ts_5,pin:=0 }),(.exit 0,{ sl:=[],bl:=[],ts:=[],pin:=0 })]
def Zde (x:T53):Option (T53 ⊕ ((Int × Int) ⊕ Unit)) :=
 bif (decide (x.2.2.1 < x.2.1)) then
 bif (inb x.2.2.1 (List.length x.1)) then
 bif (decide ((((List.length (getAt (([]:List T0),false) x.1 (toN x.2.2.1)).1):Nat):Int) > (4:Int))) then
 some (.inr (.inl (x.2.2.1,(2:Int))))
 else
 (Z9b ((getAt (([]:List T0),false) x.1 (toN x.2.2.1)).1,x.2.2.2)).bind fun r12 =>
 bif r12.1 then
 some (.inr (.inl (x.2.2.1,(3:Int))))
 else
 some (.inl (x.1,x.2.1,(IntKind.wrap .i64 (x.2.2.1+(1:Int))),r12.2))
 else
 none
 else
 some (.inr (.inr ()))
def Zje:Ctx:={ tb:=mkTb T2.tbl,fx:=[(191,[],Z12t),(86,[192],Z13w),(193,[194],Z13q)],sum:=[],nt:=65,pin:=0,nr:=true,ys:=[] }
theorem Zdf:CSound Tryz.prog ⟨65,0,true⟩ (.loop (loopOf 8 Tryz.f154)) (Yay Zo1 Zmf (loop Zde)) :=
 Y8c (C:=Zje) (ctxOK mixed tbl_ok rfl ⟨Z7g,Z9o,Z9c,trivial⟩ trivial) (SumOK.of trivial) Zo1 Zmf rfl rfl Zde (fun x=>by kernel_rfl)
abbrev Zsb:Shape:={ sl:=sl_6,bl:=[],ts:=[y39],pin:=0 }
abbrev Zxo:Shape:={ sl:=sl_7,bl:=[],ts:=ts_5,pin:=0 }
def Z7v (x:(T47)):Option (Int × Int) :=
 bif (decide ((((List.length x.1):Nat):Int) ≤ (4:Int))) then
 (Z7f (x.2.1,(0:Int),(2:Int))).bind fun r6 =>
 bif r6 then
 (Z7f (x.2.2.1,(0:Int),(2:Int))).bind fun r7 =>
 bif r7 then
 (Z7f (x.2.2.2.1,(0:Int),(4:Int))).bind fun r8 =>
 bif (Bool.not r8) then
 some ((Int.negSucc 0),(2:Int))
 else
 bif (decide ((((List.length x.2.2.2.2.1):Nat):Int) > (4:Int))) then
 some ((Int.negSucc 0),(2:Int))
 else
 (Z7f ((((List.length x.2.2.2.2.2):Nat):Int),(1:Int),(6:Int))).bind fun r9 =>
 bif (Bool.not r9) then
 some ((Int.negSucc 0),(2:Int))
 else
 (Z9n x.1).bind fun r10 =>
 bif r10 then
 some ((Int.negSucc 0),(3:Int))
 else
 (loop Zde (x.2.2.2.2.1,(((List.length x.2.2.2.2.1):Nat):Int),(0:Int),x)).bind fun r11 =>
 match r11 with
 | .inl y12 =>
 some (y12.1,y12.2)
 | .inr y12 =>
 some ((Int.negSucc 0),(0:Int))
 else
 some ((Int.negSucc 0),(2:Int))
 else
 some ((Int.negSucc 0),(2:Int))
 else
 some ((Int.negSucc 0),(2:Int))
abbrev Z131:=Spec.shp Zsb Zxo Z7v
def Zjb:Ctx:={ tb:=mkTb T2.tbl,fx:=[(191,[],Z12t),(86,[192],Z13w),(193,[194],Z13q)],sum:=[(0,8,Yay Zo1 Zmf (loop Zde))],nt:=65,pin:=0,nr:=true,ys:=[] }
theorem Z80:Sound Tryz.prog 154 (Z131) :=
 Sound.shp (C:=Zjb) (fn:=Tryz.f154) (by kernel_rfl) (c:=bodyOf Tryz.f154) (by kernel_rfl) (by decide) (ctxOK mixed tbl_ok rfl ⟨Z7g,Z9o,Z9c,trivial⟩ trivial) (SumOK.of ⟨(Yb0 (d:=.loop (loopOf 8 Tryz.f154)) (by kernel_rfl) Zdf),trivial⟩) (by kernel_rfl) Zsb Zxo rfl (by decide) (by decide) rfl (by decide) rfl Z7v (fun x=>by kernel_rfl)
abbrev Zs8:Shape:={ sl:=[],bl:=[],ts:=[],pin:=0 }
abbrev Zxl:Shape:={ sl:=[(0,(.pr (.one (.fn 223 .nil .nil)) (.pr (.one (.fn 224 .nil .nil)) (.pr (.one (.fn 224 .nil .nil)) (.pr (.one (.fn 224 .nil .nil)) (.pr (.one (.fn 225 .nil .nil)) (.pr (.one (.fn 226 .nil .nil)) (.pr (.one (.fn 226 .nil .nil)) (.pr (.one (.fn 227 .nil .nil)) (.pr (.one (.fn 227 .nil .nil)) (.pr (.one (.fn 228 .nil .nil)) (.pr (.one (.fn 229 .nil .nil)) (.pr (.one (.fn 229 .nil .nil)) (.pr (.one (.fn 230 .nil .nil)) (.one (.fn 230 .nil .nil))))))))))))))))],bl:=[],ts:=[],pin:=0 }
def Z7p (x:Unit):Option Unit :=
 some ()
abbrev Z12y:=Spec.shp Zs8 Zxl Z7p
def Zj8:Ctx:={ tb:=mkTb T2.tbl,fx:=[],sum:=[],nt:=16,pin:=0,nr:=true,ys:=[] }
theorem Z7q:Sound Tryz.prog 195 (Z12y) :=
 Sound.shp (C:=Zj8) (fn:=Tryz.f195) (by kernel_rfl) (c:=bodyOf Tryz.f195) (by kernel_rfl) (by decide) (ctxOK mixed tbl_ok rfl trivial trivial) (SumOK.of trivial) (by kernel_rfl) Zs8 Zxl rfl (by decide) (by decide) rfl (by decide) rfl Z7p (fun x=>by kernel_rfl)
abbrev Zs6:Shape:={ sl:=sl_8,bl:=[],ts:=ts_6,pin:=0 }
abbrev Zxj:Shape:={ sl:=sl_2,bl:=[],ts:=ts_2,pin:=0 }
def Z7l (x:T50):Option (Int) :=
 some (1:Int)
abbrev Z12w:=Spec.shp Zs6 Zxj Z7l
def Zj6:Ctx:={ tb:=mkTb T2.tbl,fx:=[],sum:=[],nt:=5,pin:=0,nr:=true,ys:=[] }
theorem Z7m:Sound Tryz.prog 223 (Z12w) :=
 Sound.shp (C:=Zj6) (fn:=Tryz.f223) (by kernel_rfl) (c:=bodyOf Tryz.f223) (by kernel_rfl) (by decide) (ctxOK mixed tbl_ok rfl trivial trivial) (SumOK.of trivial) (by kernel_rfl) Zs6 Zxj rfl (by decide) (by decide) rfl (by decide) rfl Z7l (fun x=>by kernel_rfl)
abbrev Zs2:Shape:={ sl:=sl_8,bl:=[],ts:=ts_6,pin:=0 }
abbrev Zxf:Shape:={ sl:=sl_2,bl:=[],ts:=ts_2,pin:=0 }
def Z7d (x:T50):Option (Int) :=
 some (((List.length x.1.1):Nat):Int)
abbrev Z12s:=Spec.shp Zs2 Zxf Z7d
def Zj2:Ctx:={ tb:=mkTb T2.tbl,fx:=[],sum:=[],nt:=8,pin:=0,nr:=true,ys:=[] }
theorem Z7e:Sound Tryz.prog 224 (Z12s) :=
 Sound.shp (C:=Zj2) (fn:=Tryz.f224) (by kernel_rfl) (c:=bodyOf Tryz.f224) (by kernel_rfl) (by decide) (ctxOK mixed tbl_ok rfl trivial trivial) (SumOK.of trivial) (by kernel_rfl) Zs2 Zxf rfl (by decide) (by decide) rfl (by decide) rfl Z7d (fun x=>by kernel_rfl)
abbrev Zsa:Shape:={ sl:=sl_8,bl:=[],ts:=ts_6,pin:=0 }
abbrev Zxn:Shape:={ sl:=sl_2,bl:=[],ts:=ts_2,pin:=0 }
def Z7t (x:T50):Option (Int) :=
 some (((List.length x.1.2.2.2.2.1):Nat):Int)
abbrev Z130:=Spec.shp Zsa Zxn Z7t
def Zja:Ctx:={ tb:=mkTb T2.tbl,fx:=[],sum:=[],nt:=8,pin:=0,nr:=true,ys:=[] }
theorem Z7u:Sound Tryz.prog 225 (Z130) :=
 Sound.shp (C:=Zja) (fn:=Tryz.f225) (by kernel_rfl) (c:=bodyOf Tryz.f225) (by kernel_rfl) (by decide) (ctxOK mixed tbl_ok rfl trivial trivial) (SumOK.of trivial) (by kernel_rfl) Zsa Zxn rfl (by decide) (by decide) rfl (by decide) rfl Z7t (fun x=>by kernel_rfl)
abbrev Zs5:Shape:={ sl:=sl_8,bl:=[],ts:=ts_6,pin:=0 }
abbrev Zxi:Shape:={ sl:=sl_2,bl:=[],ts:=ts_2,pin:=0 }
def Z7j (x:T50):Option (Int) :=
 some x.1.2.1
abbrev Z12v:=Spec.shp Zs5 Zxi Z7j
def Zj5:Ctx:={ tb:=mkTb T2.tbl,fx:=[],sum:=[],nt:=7,pin:=0,nr:=true,ys:=[] }
theorem Z7k:Sound Tryz.prog 226 (Z12v) :=
 Sound.shp (C:=Zj5) (fn:=Tryz.f226) (by kernel_rfl) (c:=bodyOf Tryz.f226) (by kernel_rfl) (by decide) (ctxOK mixed tbl_ok rfl trivial trivial) (SumOK.of trivial) (by kernel_rfl) Zs5 Zxi rfl (by decide) (by decide) rfl (by decide) rfl Z7j (fun x=>by kernel_rfl)
abbrev Zs7:Shape:={ sl:=sl_8,bl:=[],ts:=ts_6,pin:=0 }
abbrev Zxk:Shape:={ sl:=sl_2,bl:=[],ts:=ts_2,pin:=0 }
def Z7n (x:T50):Option (Int) :=
 some x.1.2.2.1
abbrev Z12x:=Spec.shp Zs7 Zxk Z7n
def Zj7:Ctx:={ tb:=mkTb T2.tbl,fx:=[],sum:=[],nt:=7,pin:=0,nr:=true,ys:=[] }
theorem Z7o:Sound Tryz.prog 227 (Z12x) :=
 Sound.shp (C:=Zj7) (fn:=Tryz.f227) (by kernel_rfl) (c:=bodyOf Tryz.f227) (by kernel_rfl) (by decide) (ctxOK mixed tbl_ok rfl trivial trivial) (SumOK.of trivial) (by kernel_rfl) Zs7 Zxk rfl (by decide) (by decide) rfl (by decide) rfl Z7n (fun x=>by kernel_rfl)
abbrev Zs1:Shape:={ sl:=sl_8,bl:=[],ts:=ts_6,pin:=0 }
abbrev Zxe:Shape:={ sl:=sl_2,bl:=[],ts:=ts_2,pin:=0 }
def Z7b (x:T50):Option (Int) :=
 some (((List.length x.1.2.2.2.2.2):Nat):Int)
abbrev Z12r:=Spec.shp Zs1 Zxe Z7b
def Zj1:Ctx:={ tb:=mkTb T2.tbl,fx:=[],sum:=[],nt:=8,pin:=0,nr:=true,ys:=[] }
theorem Z7c:Sound Tryz.prog 228 (Z12r) :=
 Sound.shp (C:=Zj1) (fn:=Tryz.f228) (by kernel_rfl) (c:=bodyOf Tryz.f228) (by kernel_rfl) (by decide) (ctxOK mixed tbl_ok rfl trivial trivial) (SumOK.of trivial) (by kernel_rfl) Zs1 Zxe rfl (by decide) (by decide) rfl (by decide) rfl Z7b (fun x=>by kernel_rfl)
abbrev Zse:Shape:={ sl:=sl_8,bl:=[],ts:=ts_6,pin:=0 }
abbrev Zxr:Shape:={ sl:=sl_2,bl:=[],ts:=ts_2,pin:=0 }
def Z81 (x:T50):Option (Int) :=
 some x.1.2.2.2.1
abbrev Z134:=Spec.shp Zse Zxr Z81
def Zjf:Ctx:={ tb:=mkTb T2.tbl,fx:=[],sum:=[],nt:=7,pin:=0,nr:=true,ys:=[] }
theorem Z82:Sound Tryz.prog 229 (Z134) :=
 Sound.shp (C:=Zjf) (fn:=Tryz.f229) (by kernel_rfl) (c:=bodyOf Tryz.f229) (by kernel_rfl) (by decide) (ctxOK mixed tbl_ok rfl trivial trivial) (SumOK.of trivial) (by kernel_rfl) Zse Zxr rfl (by decide) (by decide) rfl (by decide) rfl Z81 (fun x=>by kernel_rfl)
abbrev Zs9:Shape:={ sl:=sl_8,bl:=[],ts:=ts_6,pin:=0 }
abbrev Zxm:Shape:={ sl:=sl_2,bl:=[],ts:=ts_2,pin:=0 }
def Z7r (x:T50):Option (Int) :=
 some (IntKind.wrap .i64 ((((List.length x.2):Nat):Int)+(1:Int)))
abbrev Z12z:=Spec.shp Zs9 Zxm Z7r
def Zj9:Ctx:={ tb:=mkTb T2.tbl,fx:=[],sum:=[],nt:=8,pin:=0,nr:=true,ys:=[] }
theorem Z7s:Sound Tryz.prog 230 (Z12z) :=
 Sound.shp (C:=Zj9) (fn:=Tryz.f230) (by kernel_rfl) (c:=bodyOf Tryz.f230) (by kernel_rfl) (by decide) (ctxOK mixed tbl_ok rfl trivial trivial) (SumOK.of trivial) (by kernel_rfl) Zs9 Zxm rfl (by decide) (by decide) rfl (by decide) rfl Z7r (fun x=>by kernel_rfl)
abbrev Zs4:Shape:={ sl:=[(0,(.hole y39)),(1,(.hole (.slice y5))),(2,(.hole y5))],bl:=[],ts:=[y39,(.slice y5),y5],pin:=0 }
abbrev Zxh:Shape:={ sl:=sl_2,bl:=[],ts:=ts_2,pin:=0 }
def Z7h (x:(T47 × List (T7) × T7)):Option (Int) :=
 (Z7f (x.2.2.1,(0:Int),(13:Int))).bind fun r9 =>
 bif (Bool.not r9) then
 some (11:Int)
 else
 bif (x.2.2.1 == (7:Int)) then
 (Z7p ()).bind fun r10 =>
 bif (x.2.2.1 == (((0:Nat):Nat):Int)) then
 (Z7l (x.1,x.2.1)).bind fun r11 =>
 (Z7f (x.2.2.2.1,(0:Int),(IntKind.wrap .i64 (r11 - (1:Int))))).bind fun r12 =>
 bif (Bool.not r12) then
 some (3:Int)
 else
 (Z7f (x.2.2.2.2,(0:Int),(((List.length x.2.1):Nat):Int))).bind fun r13 =>
 bif (Bool.not r13) then
 some (3:Int)
 else
 some (0:Int)
 else
 bif (x.2.2.1 == ((((0:Nat)+(1:Nat)):Nat):Int)) then
 (Z7d (x.1,x.2.1)).bind fun r11 =>
 (Z7f (x.2.2.2.1,(0:Int),(IntKind.wrap .i64 (r11 - (1:Int))))).bind fun r12 =>
 bif (Bool.not r12) then
 some (3:Int)
 else
 (Z7f (x.2.2.2.2,(0:Int),(((List.length x.2.1):Nat):Int))).bind fun r13 =>
 bif (Bool.not r13) then
 some (3:Int)
 else
 some (0:Int)
 else
 bif (x.2.2.1 == (((((0:Nat)+(1:Nat))+(1:Nat)):Nat):Int)) then
 (Z7d (x.1,x.2.1)).bind fun r11 =>
 (Z7f (x.2.2.2.1,(0:Int),(IntKind.wrap .i64 (r11 - (1:Int))))).bind fun r12 =>
 bif (Bool.not r12) then
 some (3:Int)
 else
 (Z7f (x.2.2.2.2,(0:Int),(((List.length x.2.1):Nat):Int))).bind fun r13 =>
 bif (Bool.not r13) then
 some (3:Int)
 else
 some (0:Int)
 else
 bif (x.2.2.1 == ((((((0:Nat)+(1:Nat))+(1:Nat))+(1:Nat)):Nat):Int)) then
 (Z7d (x.1,x.2.1)).bind fun r11 =>
 (Z7f (x.2.2.2.1,(0:Int),(IntKind.wrap .i64 (r11 - (1:Int))))).bind fun r12 =>
 bif (Bool.not r12) then
 some (3:Int)
 else
 (Z7f (x.2.2.2.2,(0:Int),(((List.length x.2.1):Nat):Int))).bind fun r13 =>
 bif (Bool.not r13) then
 some (3:Int)
 else
 some (0:Int)
 else
 bif (x.2.2.1 == (((((((0:Nat)+(1:Nat))+(1:Nat))+(1:Nat))+(1:Nat)):Nat):Int)) then
 (Z7t (x.1,x.2.1)).bind fun r11 =>
 (Z7f (x.2.2.2.1,(0:Int),(IntKind.wrap .i64 (r11 - (1:Int))))).bind fun r12 =>
 bif (Bool.not r12) then
 some (3:Int)
 else
 (Z7f (x.2.2.2.2,(0:Int),(((List.length x.2.1):Nat):Int))).bind fun r13 =>
 bif (Bool.not r13) then
 some (3:Int)
 else
 some (0:Int)
 else
 bif (x.2.2.1 == ((((((((0:Nat)+(1:Nat))+(1:Nat))+(1:Nat))+(1:Nat))+(1:Nat)):Nat):Int)) then
 (Z7j (x.1,x.2.1)).bind fun r11 =>
 (Z7f (x.2.2.2.1,(0:Int),(IntKind.wrap .i64 (r11 - (1:Int))))).bind fun r12 =>
 bif (Bool.not r12) then
 some (3:Int)
 else
 (Z7f (x.2.2.2.2,(0:Int),(((List.length x.2.1):Nat):Int))).bind fun r13 =>
 bif (Bool.not r13) then
 some (3:Int)
 else
 some (0:Int)
 else
 bif (x.2.2.1 == (((((((((0:Nat)+(1:Nat))+(1:Nat))+(1:Nat))+(1:Nat))+(1:Nat))+(1:Nat)):Nat):Int)) then
 (Z7j (x.1,x.2.1)).bind fun r11 =>
 (Z7f (x.2.2.2.1,(0:Int),(IntKind.wrap .i64 (r11 - (1:Int))))).bind fun r12 =>
 bif (Bool.not r12) then
 some (3:Int)
 else
 (Z7f (x.2.2.2.2,(0:Int),(((List.length x.2.1):Nat):Int))).bind fun r13 =>
 bif (Bool.not r13) then
 some (3:Int)
 else
 some (0:Int)
 else
 bif (x.2.2.1 == ((((((((((0:Nat)+(1:Nat))+(1:Nat))+(1:Nat))+(1:Nat))+(1:Nat))+(1:Nat))+(1:Nat)):Nat):Int)) then
 (Z7n (x.1,x.2.1)).bind fun r11 =>
 (Z7f (x.2.2.2.1,(0:Int),(IntKind.wrap .i64 (r11 - (1:Int))))).bind fun r12 =>
 bif (Bool.not r12) then
 some (3:Int)
 else
 (Z7f (x.2.2.2.2,(0:Int),(((List.length x.2.1):Nat):Int))).bind fun r13 =>
 bif (Bool.not r13) then
 some (3:Int)
 else
 some (0:Int)
 else
 bif (x.2.2.1 == (((((((((((0:Nat)+(1:Nat))+(1:Nat))+(1:Nat))+(1:Nat))+(1:Nat))+(1:Nat))+(1:Nat))+(1:Nat)):Nat):Int)) then
 (Z7n (x.1,x.2.1)).bind fun r11 =>
 (Z7f (x.2.2.2.1,(0:Int),(IntKind.wrap .i64 (r11 - (1:Int))))).bind fun r12 =>
 bif (Bool.not r12) then
 some (3:Int)
 else
 (Z7f (x.2.2.2.2,(0:Int),(((List.length x.2.1):Nat):Int))).bind fun r13 =>
 bif (Bool.not r13) then
 some (3:Int)
 else
 some (0:Int)
 else
 bif (x.2.2.1 == ((((((((((((0:Nat)+(1:Nat))+(1:Nat))+(1:Nat))+(1:Nat))+(1:Nat))+(1:Nat))+(1:Nat))+(1:Nat))+(1:Nat)):Nat):Int)) then
 (Z7b (x.1,x.2.1)).bind fun r11 =>
 (Z7f (x.2.2.2.1,(0:Int),(IntKind.wrap .i64 (r11 - (1:Int))))).bind fun r12 =>
 bif (Bool.not r12) then
 some (3:Int)
 else
 (Z7f (x.2.2.2.2,(0:Int),(((List.length x.2.1):Nat):Int))).bind fun r13 =>
 bif (Bool.not r13) then
 some (3:Int)
 else
 some (0:Int)
 else
 bif (x.2.2.1 == (((((((((((((0:Nat)+(1:Nat))+(1:Nat))+(1:Nat))+(1:Nat))+(1:Nat))+(1:Nat))+(1:Nat))+(1:Nat))+(1:Nat))+(1:Nat)):Nat):Int)) then
 (Z81 (x.1,x.2.1)).bind fun r11 =>
 (Z7f (x.2.2.2.1,(0:Int),(IntKind.wrap .i64 (r11 - (1:Int))))).bind fun r12 =>
 bif (Bool.not r12) then
 some (3:Int)
 else
 (Z7f (x.2.2.2.2,(0:Int),(((List.length x.2.1):Nat):Int))).bind fun r13 =>
 bif (Bool.not r13) then
 some (3:Int)
 else
 some (0:Int)
 else
 bif (x.2.2.1 == ((((((((((((((0:Nat)+(1:Nat))+(1:Nat))+(1:Nat))+(1:Nat))+(1:Nat))+(1:Nat))+(1:Nat))+(1:Nat))+(1:Nat))+(1:Nat))+(1:Nat)):Nat):Int)) then
 (Z81 (x.1,x.2.1)).bind fun r11 =>
 (Z7f (x.2.2.2.1,(0:Int),(IntKind.wrap .i64 (r11 - (1:Int))))).bind fun r12 =>
 bif (Bool.not r12) then
 some (3:Int)
 else
 (Z7f (x.2.2.2.2,(0:Int),(((List.length x.2.1):Nat):Int))).bind fun r13 =>
 bif (Bool.not r13) then
 some (3:Int)
 else
 some (0:Int)
 else
 bif (x.2.2.1 == (((((((((((((((0:Nat)+(1:Nat))+(1:Nat))+(1:Nat))+(1:Nat))+(1:Nat))+(1:Nat))+(1:Nat))+(1:Nat))+(1:Nat))+(1:Nat))+(1:Nat))+(1:Nat)):Nat):Int)) then
 (Z7r (x.1,x.2.1)).bind fun r11 =>
 (Z7f (x.2.2.2.1,(0:Int),(IntKind.wrap .i64 (r11 - (1:Int))))).bind fun r12 =>
 bif (Bool.not r12) then
 some (3:Int)
 else
 (Z7f (x.2.2.2.2,(0:Int),(((List.length x.2.1):Nat):Int))).bind fun r13 =>
 bif (Bool.not r13) then
 some (3:Int)
 else
 some (0:Int)
 else
 bif (x.2.2.1 == ((((((((((((((((0:Nat)+(1:Nat))+(1:Nat))+(1:Nat))+(1:Nat))+(1:Nat))+(1:Nat))+(1:Nat))+(1:Nat))+(1:Nat))+(1:Nat))+(1:Nat))+(1:Nat))+(1:Nat)):Nat):Int)) then
 (Z7r (x.1,x.2.1)).bind fun r11 =>
 (Z7f (x.2.2.2.1,(0:Int),(IntKind.wrap .i64 (r11 - (1:Int))))).bind fun r12 =>
 bif (Bool.not r12) then
 some (3:Int)
 else
 (Z7f (x.2.2.2.2,(0:Int),(((List.length x.2.1):Nat):Int))).bind fun r13 =>
 bif (Bool.not r13) then
 some (3:Int)
 else
 some (0:Int)
 else
 none
 else
 (Z7p ()).bind fun r10 =>
 bif (x.2.2.1 == (((0:Nat):Nat):Int)) then
 (Z7l (x.1,x.2.1)).bind fun r11 =>
 (Z7f (x.2.2.2.1,(0:Int),(IntKind.wrap .i64 (r11 - (1:Int))))).bind fun r12 =>
 bif (Bool.not r12) then
 some (3:Int)
 else
 (Z7f (x.2.2.2.2,(0:Int),(0:Int))).bind fun r13 =>
 bif (Bool.not r13) then
 some (3:Int)
 else
 some (0:Int)
 else
 bif (x.2.2.1 == ((((0:Nat)+(1:Nat)):Nat):Int)) then
 (Z7d (x.1,x.2.1)).bind fun r11 =>
 (Z7f (x.2.2.2.1,(0:Int),(IntKind.wrap .i64 (r11 - (1:Int))))).bind fun r12 =>
 bif (Bool.not r12) then
 some (3:Int)
 else
 (Z7f (x.2.2.2.2,(0:Int),(0:Int))).bind fun r13 =>
 bif (Bool.not r13) then
 some (3:Int)
 else
 some (0:Int)
 else
 bif (x.2.2.1 == (((((0:Nat)+(1:Nat))+(1:Nat)):Nat):Int)) then
 (Z7d (x.1,x.2.1)).bind fun r11 =>
 (Z7f (x.2.2.2.1,(0:Int),(IntKind.wrap .i64 (r11 - (1:Int))))).bind fun r12 =>
 bif (Bool.not r12) then
 some (3:Int)
 else
 (Z7f (x.2.2.2.2,(0:Int),(0:Int))).bind fun r13 =>
 bif (Bool.not r13) then
 some (3:Int)
 else
 some (0:Int)
 else
 bif (x.2.2.1 == ((((((0:Nat)+(1:Nat))+(1:Nat))+(1:Nat)):Nat):Int)) then
 (Z7d (x.1,x.2.1)).bind fun r11 =>
 (Z7f (x.2.2.2.1,(0:Int),(IntKind.wrap .i64 (r11 - (1:Int))))).bind fun r12 =>
 bif (Bool.not r12) then
 some (3:Int)
 else
 (Z7f (x.2.2.2.2,(0:Int),(0:Int))).bind fun r13 =>
 bif (Bool.not r13) then
 some (3:Int)
 else
 some (0:Int)
 else
 bif (x.2.2.1 == (((((((0:Nat)+(1:Nat))+(1:Nat))+(1:Nat))+(1:Nat)):Nat):Int)) then
 (Z7t (x.1,x.2.1)).bind fun r11 =>
 (Z7f (x.2.2.2.1,(0:Int),(IntKind.wrap .i64 (r11 - (1:Int))))).bind fun r12 =>
 bif (Bool.not r12) then
 some (3:Int)
 else
 (Z7f (x.2.2.2.2,(0:Int),(0:Int))).bind fun r13 =>
 bif (Bool.not r13) then
 some (3:Int)
 else
 some (0:Int)
 else
 bif (x.2.2.1 == ((((((((0:Nat)+(1:Nat))+(1:Nat))+(1:Nat))+(1:Nat))+(1:Nat)):Nat):Int)) then
 (Z7j (x.1,x.2.1)).bind fun r11 =>
 (Z7f (x.2.2.2.1,(0:Int),(IntKind.wrap .i64 (r11 - (1:Int))))).bind fun r12 =>
 bif (Bool.not r12) then
 some (3:Int)
 else
 (Z7f (x.2.2.2.2,(0:Int),(0:Int))).bind fun r13 =>
 bif (Bool.not r13) then
 some (3:Int)
 else
 some (0:Int)
 else
 bif (x.2.2.1 == (((((((((0:Nat)+(1:Nat))+(1:Nat))+(1:Nat))+(1:Nat))+(1:Nat))+(1:Nat)):Nat):Int)) then
 (Z7j (x.1,x.2.1)).bind fun r11 =>
 (Z7f (x.2.2.2.1,(0:Int),(IntKind.wrap .i64 (r11 - (1:Int))))).bind fun r12 =>
 bif (Bool.not r12) then
 some (3:Int)
 else
 (Z7f (x.2.2.2.2,(0:Int),(0:Int))).bind fun r13 =>
 bif (Bool.not r13) then
 some (3:Int)
 else
 some (0:Int)
 else
 bif (x.2.2.1 == ((((((((((0:Nat)+(1:Nat))+(1:Nat))+(1:Nat))+(1:Nat))+(1:Nat))+(1:Nat))+(1:Nat)):Nat):Int)) then
 (Z7n (x.1,x.2.1)).bind fun r11 =>
 (Z7f (x.2.2.2.1,(0:Int),(IntKind.wrap .i64 (r11 - (1:Int))))).bind fun r12 =>
 bif (Bool.not r12) then
 some (3:Int)
 else
 (Z7f (x.2.2.2.2,(0:Int),(0:Int))).bind fun r13 =>
 bif (Bool.not r13) then
 some (3:Int)
 else
 some (0:Int)
 else
 bif (x.2.2.1 == (((((((((((0:Nat)+(1:Nat))+(1:Nat))+(1:Nat))+(1:Nat))+(1:Nat))+(1:Nat))+(1:Nat))+(1:Nat)):Nat):Int)) then
 (Z7n (x.1,x.2.1)).bind fun r11 =>
 (Z7f (x.2.2.2.1,(0:Int),(IntKind.wrap .i64 (r11 - (1:Int))))).bind fun r12 =>
 bif (Bool.not r12) then
 some (3:Int)
 else
 (Z7f (x.2.2.2.2,(0:Int),(0:Int))).bind fun r13 =>
 bif (Bool.not r13) then
 some (3:Int)
 else
 some (0:Int)
 else
 bif (x.2.2.1 == ((((((((((((0:Nat)+(1:Nat))+(1:Nat))+(1:Nat))+(1:Nat))+(1:Nat))+(1:Nat))+(1:Nat))+(1:Nat))+(1:Nat)):Nat):Int)) then
 (Z7b (x.1,x.2.1)).bind fun r11 =>
 (Z7f (x.2.2.2.1,(0:Int),(IntKind.wrap .i64 (r11 - (1:Int))))).bind fun r12 =>
 bif (Bool.not r12) then
 some (3:Int)
 else
 (Z7f (x.2.2.2.2,(0:Int),(0:Int))).bind fun r13 =>
 bif (Bool.not r13) then
 some (3:Int)
 else
 some (0:Int)
 else
 bif (x.2.2.1 == (((((((((((((0:Nat)+(1:Nat))+(1:Nat))+(1:Nat))+(1:Nat))+(1:Nat))+(1:Nat))+(1:Nat))+(1:Nat))+(1:Nat))+(1:Nat)):Nat):Int)) then
 (Z81 (x.1,x.2.1)).bind fun r11 =>
 (Z7f (x.2.2.2.1,(0:Int),(IntKind.wrap .i64 (r11 - (1:Int))))).bind fun r12 =>
 bif (Bool.not r12) then
 some (3:Int)
 else
 (Z7f (x.2.2.2.2,(0:Int),(0:Int))).bind fun r13 =>
 bif (Bool.not r13) then
 some (3:Int)
 else
 some (0:Int)
 else
 bif (x.2.2.1 == ((((((((((((((0:Nat)+(1:Nat))+(1:Nat))+(1:Nat))+(1:Nat))+(1:Nat))+(1:Nat))+(1:Nat))+(1:Nat))+(1:Nat))+(1:Nat))+(1:Nat)):Nat):Int)) then
 (Z81 (x.1,x.2.1)).bind fun r11 =>
 (Z7f (x.2.2.2.1,(0:Int),(IntKind.wrap .i64 (r11 - (1:Int))))).bind fun r12 =>
 bif (Bool.not r12) then
 some (3:Int)
 else
 (Z7f (x.2.2.2.2,(0:Int),(0:Int))).bind fun r13 =>
 bif (Bool.not r13) then
 some (3:Int)
 else
 some (0:Int)
 else
 bif (x.2.2.1 == (((((((((((((((0:Nat)+(1:Nat))+(1:Nat))+(1:Nat))+(1:Nat))+(1:Nat))+(1:Nat))+(1:Nat))+(1:Nat))+(1:Nat))+(1:Nat))+(1:Nat))+(1:Nat)):Nat):Int)) then
 (Z7r (x.1,x.2.1)).bind fun r11 =>
 (Z7f (x.2.2.2.1,(0:Int),(IntKind.wrap .i64 (r11 - (1:Int))))).bind fun r12 =>
 bif (Bool.not r12) then
 some (3:Int)
 else
 (Z7f (x.2.2.2.2,(0:Int),(0:Int))).bind fun r13 =>
 bif (Bool.not r13) then
 some (3:Int)
 else
 some (0:Int)
 else
 bif (x.2.2.1 == ((((((((((((((((0:Nat)+(1:Nat))+(1:Nat))+(1:Nat))+(1:Nat))+(1:Nat))+(1:Nat))+(1:Nat))+(1:Nat))+(1:Nat))+(1:Nat))+(1:Nat))+(1:Nat))+(1:Nat)):Nat):Int)) then
 (Z7r (x.1,x.2.1)).bind fun r11 =>
 (Z7f (x.2.2.2.1,(0:Int),(IntKind.wrap .i64 (r11 - (1:Int))))).bind fun r12 =>
 bif (Bool.not r12) then
 some (3:Int)
 else
 (Z7f (x.2.2.2.2,(0:Int),(0:Int))).bind fun r13 =>
 bif (Bool.not r13) then
 some (3:Int)
 else
 some (0:Int)
 else
 none
abbrev Z12u:=Spec.shp Zs4 Zxh Z7h
def Zj4:Ctx:={ tb:=mkTb T2.tbl,fx:=[(191,[],Z12t),(195,[],Z12y),(223,[],Z12w),(224,[],Z12s),(225,[],Z130),(226,[],Z12v),(227,[],Z12x),(228,[],Z12r),(229,[],Z134),(230,[],Z12z)],sum:=[],nt:=37,pin:=0,nr:=true,ys:=[] }
theorem Z7i:Sound Tryz.prog 155 (Z12u) :=
 Sound.shp (C:=Zj4) (fn:=Tryz.f155) (by kernel_rfl) (c:=bodyOf Tryz.f155) (by kernel_rfl) (by decide) (ctxOK mixed tbl_ok rfl ⟨Z7g,Z7q,Z7m,Z7e,Z7u,Z7k,Z7o,Z7c,Z82,Z7s,trivial⟩ trivial) (SumOK.of trivial) (by kernel_rfl) Zs4 Zxh rfl (by decide) (by decide) rfl (by decide) rfl Z7h (fun x=>by kernel_rfl)
abbrev Znz:Shape:={ sl:=sl_9,bl:=bl_0,ts:=ts_7,pin:=0 }
abbrev Zmd:List (ETag × Shape):=[(.ret,{ sl:=sl_10,bl:=[],ts:=ts_0,pin:=0 }),(.exit 2,{ sl:=sl_11,bl:=bl_0,ts:=ts_8,pin:=0 })]
def Zda (x:T56):Option (T56 ⊕ (T4 ⊕ T54)) :=
 bif (decide (x.2.2.2.2.2.2.2.1 < x.2.2.2.2.2.2.1)) then
 bif (inb x.2.2.2.2.2.2.2.1 (List.length x.2.2.2.2.2.1)) then
 (Z7h (x.2.2.2.2.2.2.2.2,x.2.1,(getAt ((0:Int),(0:Int),(0:Int)) x.2.2.2.2.2.1 (toN x.2.2.2.2.2.2.2.1)))).bind fun r8 =>
 bif (r8 != (0:Int)) then
 some (.inr (.inl (x.1,x.2.2.2.2.2.2.2.1,r8)))
 else
 some (.inl (x.1,x.2.1,x.2.2.1,x.2.2.2.1,x.2.2.2.2.1,x.2.2.2.2.2.1,x.2.2.2.2.2.2.1,(IntKind.wrap .i64 (x.2.2.2.2.2.2.2.1+(1:Int))),x.2.2.2.2.2.2.2.2))
 else
 none
 else
 some (.inr (.inr (x.2.2.1,x.2.2.2.1,x.2.2.2.2.1,x.2.2.2.2.2.2.2.2)))
def Ziz:Ctx:={ tb:=mkTb T2.tbl,fx:=[(154,[],Z131),(155,[],Z12u)],sum:=[],nt:=51,pin:=0,nr:=true,ys:=[] }
theorem Zdb:CSound Tryz.prog ⟨51,0,true⟩ (.loop (loopOf 11 Tryz.f92)) (Yay Znz Zmd (loop Zda)) :=
 Y8c (C:=Ziz) (ctxOK mixed tbl_ok rfl ⟨Z80,Z7i,trivial⟩ trivial) (SumOK.of trivial) Znz Zmd rfl rfl Zda (fun x=>by kernel_rfl)
abbrev Zo0:Shape:={ sl:=sl_11,bl:=bl_0,ts:=ts_8,pin:=0 }
abbrev Zme:List (ETag × Shape):=[(.ret,{ sl:=sl_10,bl:=[],ts:=ts_0,pin:=0 }),(.exit 0,{ sl:=[],bl:=[],ts:=[],pin:=0 })]
def Zdc (x:T54):Option (T54 ⊕ (T4 ⊕ Unit)) :=
 bif (decide (x.2.2.1 < x.2.1)) then
 bif (inb x.2.2.1 (List.length x.1)) then
 bif (decide ((((List.length (getAt ([]:List T7) x.1 (toN x.2.2.1))):Nat):Int) > (24:Int))) then
 some (.inr (.inl (x.2.2.1,(Int.negSucc 0),(2:Int))))
 else
 (loop Zda (x.2.2.1,(getAt ([]:List T7) x.1 (toN x.2.2.1)),x.1,x.2.1,x.2.2.1,(getAt ([]:List T7) x.1 (toN x.2.2.1)),(((List.length (getAt ([]:List T7) x.1 (toN x.2.2.1))):Nat):Int),(0:Int),x.2.2.2)).bind fun r7 =>
 match r7 with
 | .inl y8 =>
 some (.inr (.inl (y8.1,y8.2.1,y8.2.2)))
 | .inr y8 =>
 some (.inl (y8.1,y8.2.1,(IntKind.wrap .i64 (y8.2.2.1+(1:Int))),y8.2.2.2))
 else
 none
 else
 some (.inr (.inr ()))
def Zj0:Ctx:={ tb:=mkTb T2.tbl,fx:=[(154,[],Z131),(155,[],Z12u)],sum:=[(0,11,Yay Znz Zmd (loop Zda))],nt:=51,pin:=0,nr:=true,ys:=[] }
theorem Zdd:CSound Tryz.prog ⟨51,0,true⟩ (.loop (loopOf 6 Tryz.f92)) (Yay Zo0 Zme (loop Zdc)) :=
 Y8c (C:=Zj0) (ctxOK mixed tbl_ok rfl ⟨Z80,Z7i,trivial⟩ trivial) (SumOK.of ⟨(Yb0 (d:=.loop (loopOf 11 Tryz.f92)) (by kernel_rfl) Zdb),trivial⟩) Zo0 Zme rfl rfl Zdc (fun x=>by kernel_rfl)
abbrev Zs0:Shape:={ sl:=sl_6,bl:=[],ts:=[y39],pin:=0 }
abbrev Zxd:Shape:={ sl:=sl_0,bl:=[],ts:=ts_0,pin:=0 }
def Z79 (x:(T47)):Option T4 :=
 (Z7v x).bind fun r5 =>
 bif (r5.2 != (0:Int)) then
 some ((Int.negSucc 0),r5.1,r5.2)
 else
 (loop Zdc (x.2.2.2.2.2,(((List.length x.2.2.2.2.2):Nat):Int),(0:Int),x)).bind fun r6 =>
 match r6 with
 | .inl y7 =>
 some (y7.1,y7.2.1,y7.2.2)
 | .inr y7 =>
 some ((Int.negSucc 0),(Int.negSucc 0),(0:Int))
abbrev Z12q:=Spec.shp Zs0 Zxd Z79
def Ziy:Ctx:={ tb:=mkTb T2.tbl,fx:=[(154,[],Z131),(155,[],Z12u)],sum:=[(0,11,Yay Znz Zmd (loop Zda)),(0,6,Yay Zo0 Zme (loop Zdc))],nt:=51,pin:=0,nr:=true,ys:=[] }
theorem Z7a:Sound Tryz.prog 92 (Z12q) :=
 Sound.shp (C:=Ziy) (fn:=Tryz.f92) (by kernel_rfl) (c:=bodyOf Tryz.f92) (by kernel_rfl) (by decide) (ctxOK mixed tbl_ok rfl ⟨Z80,Z7i,trivial⟩ trivial) (SumOK.of ⟨(Yb0 (d:=.loop (loopOf 11 Tryz.f92)) (by kernel_rfl) Zdb),(Yb0 (d:=.loop (loopOf 6 Tryz.f92)) (by kernel_rfl) Zdd),trivial⟩) (by kernel_rfl) Zs0 Zxd rfl (by decide) (by decide) rfl (by decide) rfl Z79 (fun x=>by kernel_rfl)
abbrev Zrz:Shape:={ sl:=sl_6,bl:=[],ts:=[y39],pin:=0 }
abbrev Zxc:Shape:={ sl:=sl_1,bl:=[],ts:=ts_1,pin:=0 }
def Z77 (x:(T47)):Option (Bool) :=
 (Z79 x).bind fun r4 =>
 some (r4.2.2 == (0:Int))
abbrev Z12p:=Spec.shp Zrz Zxc Z77
def Zix:Ctx:={ tb:=mkTb T2.tbl,fx:=[(92,[],Z12q)],sum:=[],nt:=14,pin:=0,nr:=true,ys:=[] }
theorem Z78:Sound Tryz.prog 38 (Z12p) :=
 Sound.shp (C:=Zix) (fn:=Tryz.f38) (by kernel_rfl) (c:=bodyOf Tryz.f38) (by kernel_rfl) (by decide) (ctxOK mixed tbl_ok rfl ⟨Z7a,trivial⟩ trivial) (SumOK.of trivial) (by kernel_rfl) Zrz Zxc rfl (by decide) (by decide) rfl (by decide) rfl Z77 (fun x=>by kernel_rfl)
abbrev Zsh:Shape:={ sl:=sl_2,bl:=[],ts:=ts_2,pin:=0 }
abbrev Zxu:Shape:={ sl:=sl_12,bl:=[],ts:=[y21,(.int .i64)],pin:=0 }
def Z87 (x:(Int)):Option (T16 × Int) :=
 bif (decide (x < (0:Int))) then
 some (((0:Int),(0:Int),([]:List Int),(0:Int)),(2:Int))
 else
 bif (decide (x > (8:Int))) then
 some (((0:Int),(0:Int),([]:List Int),(0:Int)),(2:Int))
 else
 bif (mkOK x x) then
 some ((x,(0:Int),(List.replicate (toN x) (0:Int)),(0:Int)),(0:Int))
 else
 none
abbrev Z136:=Spec.shp Zsh Zxu Z87
def Zji:Ctx:={ tb:=mkTb T2.tbl,fx:=[],sum:=[],nt:=15,pin:=0,nr:=true,ys:=[] }
theorem Z88:Sound Tryz.prog 93 (Z136) :=
 Sound.shp (C:=Zji) (fn:=Tryz.f93) (by kernel_rfl) (c:=bodyOf Tryz.f93) (by kernel_rfl) (by decide) (ctxOK mixed tbl_ok rfl trivial trivial) (SumOK.of trivial) (by kernel_rfl) Zsh Zxu rfl (by decide) (by decide) rfl (by decide) rfl Z87 (fun x=>by kernel_rfl)
abbrev Zoi:Shape:={ sl:=sl_2,bl:=[],ts:=ts_2,pin:=0 }
abbrev Ztv:Shape:={ sl:=sl_13,bl:=[],ts:=[y40,(.int .i64)],pin:=0 }
def Z4 (x:(Int)):Option T46 :=
 bif (decide (x < (Int.negSucc 0))) then
 some (((0:Int),false,((0:Int),(0:Int),([]:List Int),(0:Int)),(0:Int),(0:Int),([]:List T7),([]:List T7)),(2:Int))
 else
 bif (decide (x > (3:Int))) then
 some (((0:Int),false,((0:Int),(0:Int),([]:List Int),(0:Int)),(0:Int),(0:Int),([]:List T7),([]:List T7)),(2:Int))
 else
 (Z87 (Max.max x (0:Int))).bind fun r6 =>
 some ((x,false,r6.1,(0:Int),(0:Int),([]:List T7),([]:List T7)),r6.2)
abbrev Zz8:=Spec.shp Zoi Ztv Z4
def Zea:Ctx:={ tb:=mkTb T2.tbl,fx:=[(93,[],Z136)],sum:=[],nt:=23,pin:=0,nr:=true,ys:=[] }
theorem Z5:Sound Tryz.prog 39 (Zz8) :=
 Sound.shp (C:=Zea) (fn:=Tryz.f39) (by kernel_rfl) (c:=bodyOf Tryz.f39) (by kernel_rfl) (by decide) (ctxOK mixed tbl_ok rfl ⟨Z88,trivial⟩ trivial) (SumOK.of trivial) (by kernel_rfl) Zoi Ztv rfl (by decide) (by decide) rfl (by decide) rfl Z4 (fun x=>by kernel_rfl)
abbrev Zmw:Shape:={ sl:=[(2,(.ptr 0 [])),(5,(.ptr 1 [])),(26,(.hole y0)),(27,(.hole (.int .i64))),(28,(.hole (.int .i64)))],bl:=bl_1,ts:=[y0,(.int .i64),(.int .i64),(.int .i64),(.int .i64),(.int .i64),y4,y39,y4,y18,y41,y19,y26],pin:=0 }
abbrev Zla:List (ETag × Shape):=[(.exit 0,{ sl:=[(2,(.ptr 0 [])),(5,(.ptr 1 []))],bl:=bl_1,ts:=ts_9,pin:=0 })]
def Zb1 (x:(List Int × Int × Int × Int × Int × Int × (Int × Int) × T47 × (Int × Int) × List (T17) × List T43 × List (T18) × List T29)):Option ((List Int × Int × Int × Int × Int × Int × (Int × Int) × T47 × (Int × Int) × List (T17) × List T43 × List (T18) × List T29) ⊕ (Int × Int × Int × (Int × Int) × T47 × (Int × Int) × List (T17) × List T43 × List (T18) × List T29)) :=
 bif (decide (x.2.2.1 < x.2.1)) then
 bif (inb x.2.2.1 (List.length x.1)) then
 (Z4 (getAt (0:Int) x.1 (toN x.2.2.1))).bind fun r5 =>
 bif (fits ((List.length x.2.2.2.2.2.2.2.2.2.2.1)+(List.length (r5.1 :: ([]:List (Int × T41)))))) then
 some (.inl (x.1,x.2.1,(IntKind.wrap .i64 (x.2.2.1+(1:Int))),x.2.2.2.1,x.2.2.2.2.1,x.2.2.2.2.2.1,x.2.2.2.2.2.2.1,x.2.2.2.2.2.2.2.1,x.2.2.2.2.2.2.2.2.1,x.2.2.2.2.2.2.2.2.2.1,(x.2.2.2.2.2.2.2.2.2.2.1++(r5.1 :: ([]:List (Int × T41)))),x.2.2.2.2.2.2.2.2.2.2.2.1,x.2.2.2.2.2.2.2.2.2.2.2.2))
 else
 none
 else
 none
 else
 some (.inr (x.2.2.2.1,x.2.2.2.2.1,x.2.2.2.2.2.1,x.2.2.2.2.2.2.1,x.2.2.2.2.2.2.2.1,x.2.2.2.2.2.2.2.2.1,x.2.2.2.2.2.2.2.2.2.1,x.2.2.2.2.2.2.2.2.2.2.1,x.2.2.2.2.2.2.2.2.2.2.2.1,x.2.2.2.2.2.2.2.2.2.2.2.2))
def Zew:Ctx:={ tb:=mkTb T2.tbl,fx:=[(38,[],Z12p),(39,[],Zz8)],sum:=[],nt:=61,pin:=0,nr:=true,ys:=[] }
theorem Zb2:CSound Tryz.prog ⟨61,0,true⟩ (.loop (loopOf 6 Tryz.f14)) (Yay Zmw Zla (loop Zb1)) :=
 Y8c (C:=Zew) (ctxOK mixed tbl_ok rfl ⟨Z78,Z5,trivial⟩ trivial) (SumOK.of trivial) Zmw Zla rfl rfl Zb1 (fun x=>by kernel_rfl)
abbrev Zpz:Shape:={ sl:=[(0,(.ptr 0 [])),(1,(.hole (.int .i64))),(2,(.hole (.int .i64))),(3,(.hole (.int .i64))),(4,(.hole (.int .i64))),(5,(.hole (.int .i64)))],bl:=bl_2,ts:=[(.int .i64),(.int .i64),(.int .i64),(.int .i64),(.int .i64),y39,y4,y18,y41,y19,y26,y27],pin:=0 }
abbrev Zvc:Shape:={ sl:=sl_2,bl:=bl_2,ts:=ts_10,pin:=1 }
def Z35 (x:(Int × Int × Int × Int × Int × T47 × (Int × Int) × List (T17) × List T43 × List (T18) × List T29 × List (T20))):Option T58 :=
 bif (fits ((List.length x.2.2.2.2.2.2.2.2.2.2.2)+(List.length ((x.1,x.2.1,x.2.2.1,x.2.2.2.1,x.2.2.2.2.1) :: ([]:List T20))))) then
 some ((IntKind.wrap .i64 ((IntKind.wrap .i64 (x.2.2.2.2.2.2.1.1+(1:Int))) - (1:Int))),x.2.2.2.2.2.1,((IntKind.wrap .i64 (x.2.2.2.2.2.2.1.1+(1:Int))),x.2.2.2.2.2.2.1.2),x.2.2.2.2.2.2.2.1,x.2.2.2.2.2.2.2.2.1,x.2.2.2.2.2.2.2.2.2.1,x.2.2.2.2.2.2.2.2.2.2.1,(x.2.2.2.2.2.2.2.2.2.2.2++((x.1,x.2.1,x.2.2.1,x.2.2.2.1,x.2.2.2.2.1) :: ([]:List T20))))
 else
 none
abbrev Z10p:=Spec.shp Zpz Zvc Z35
def Zg2:Ctx:={ tb:=mkTb T2.tbl,fx:=[],sum:=[],nt:=43,pin:=1,nr:=true,ys:=[] }
theorem Z36:Sound Tryz.prog 40 (Z10p) :=
 Sound.shp (C:=Zg2) (fn:=Tryz.f40) (by kernel_rfl) (c:=bodyOf Tryz.f40) (by kernel_rfl) (by decide) (ctxOK mixed tbl_ok rfl trivial trivial) (SumOK.of trivial) (by kernel_rfl) Zpz Zvc rfl (by decide) (by decide) rfl (by decide) rfl Z35 (fun x=>by kernel_rfl)
abbrev Zph:Shape:={ sl:=sl_14,bl:=bl_2,ts:=[(.int .i64),(.int .i64),y39,y4,y18,y41,y19,y26,y27],pin:=0 }
abbrev Zuu:Shape:={ sl:=[],bl:=bl_2,ts:=ts_11,pin:=1 }
def Z24 (x:(Int × Int × T47 × (Int × Int) × List (T17) × List T43 × List (T18) × List T29 × List (T20))):Option T57 :=
 bif (inb x.1 (List.length x.2.2.2.2.1)) then
 bif (inb (getAt ((0:Int),(0:Int),(0:Int),false) (List.set (List.set x.2.2.2.2.1 (toN x.1) ((getAt ((0:Int),(0:Int),(0:Int),false) x.2.2.2.2.1 (toN x.1)).1,x.2.1,(getAt ((0:Int),(0:Int),(0:Int),false) x.2.2.2.2.1 (toN x.1)).2.2)) (toN x.1) ((getAt ((0:Int),(0:Int),(0:Int),false) (List.set x.2.2.2.2.1 (toN x.1) ((getAt ((0:Int),(0:Int),(0:Int),false) x.2.2.2.2.1 (toN x.1)).1,x.2.1,(getAt ((0:Int),(0:Int),(0:Int),false) x.2.2.2.2.1 (toN x.1)).2.2)) (toN x.1)).1,(getAt ((0:Int),(0:Int),(0:Int),false) (List.set x.2.2.2.2.1 (toN x.1) ((getAt ((0:Int),(0:Int),(0:Int),false) x.2.2.2.2.1 (toN x.1)).1,x.2.1,(getAt ((0:Int),(0:Int),(0:Int),false) x.2.2.2.2.1 (toN x.1)).2.2)) (toN x.1)).2.1,(0:Int),(getAt ((0:Int),(0:Int),(0:Int),false) (List.set x.2.2.2.2.1 (toN x.1) ((getAt ((0:Int),(0:Int),(0:Int),false) x.2.2.2.2.1 (toN x.1)).1,x.2.1,(getAt ((0:Int),(0:Int),(0:Int),false) x.2.2.2.2.1 (toN x.1)).2.2)) (toN x.1)).2.2.2)) (toN x.1)).1 (List.length x.2.2.1.2.2.2.2.2)) then
 bif (x.2.1 == (((List.length (getAt ([]:List T7) x.2.2.1.2.2.2.2.2 (toN (getAt ((0:Int),(0:Int),(0:Int),false) (List.set (List.set x.2.2.2.2.1 (toN x.1) ((getAt ((0:Int),(0:Int),(0:Int),false) x.2.2.2.2.1 (toN x.1)).1,x.2.1,(getAt ((0:Int),(0:Int),(0:Int),false) x.2.2.2.2.1 (toN x.1)).2.2)) (toN x.1) ((getAt ((0:Int),(0:Int),(0:Int),false) (List.set x.2.2.2.2.1 (toN x.1) ((getAt ((0:Int),(0:Int),(0:Int),false) x.2.2.2.2.1 (toN x.1)).1,x.2.1,(getAt ((0:Int),(0:Int),(0:Int),false) x.2.2.2.2.1 (toN x.1)).2.2)) (toN x.1)).1,(getAt ((0:Int),(0:Int),(0:Int),false) (List.set x.2.2.2.2.1 (toN x.1) ((getAt ((0:Int),(0:Int),(0:Int),false) x.2.2.2.2.1 (toN x.1)).1,x.2.1,(getAt ((0:Int),(0:Int),(0:Int),false) x.2.2.2.2.1 (toN x.1)).2.2)) (toN x.1)).2.1,(0:Int),(getAt ((0:Int),(0:Int),(0:Int),false) (List.set x.2.2.2.2.1 (toN x.1) ((getAt ((0:Int),(0:Int),(0:Int),false) x.2.2.2.2.1 (toN x.1)).1,x.2.1,(getAt ((0:Int),(0:Int),(0:Int),false) x.2.2.2.2.1 (toN x.1)).2.2)) (toN x.1)).2.2.2)) (toN x.1)).1))):Nat):Int)) then
 some (x.2.2.1,x.2.2.2.1,(List.set (List.set (List.set x.2.2.2.2.1 (toN x.1) ((getAt ((0:Int),(0:Int),(0:Int),false) x.2.2.2.2.1 (toN x.1)).1,x.2.1,(getAt ((0:Int),(0:Int),(0:Int),false) x.2.2.2.2.1 (toN x.1)).2.2)) (toN x.1) ((getAt ((0:Int),(0:Int),(0:Int),false) (List.set x.2.2.2.2.1 (toN x.1) ((getAt ((0:Int),(0:Int),(0:Int),false) x.2.2.2.2.1 (toN x.1)).1,x.2.1,(getAt ((0:Int),(0:Int),(0:Int),false) x.2.2.2.2.1 (toN x.1)).2.2)) (toN x.1)).1,(getAt ((0:Int),(0:Int),(0:Int),false) (List.set x.2.2.2.2.1 (toN x.1) ((getAt ((0:Int),(0:Int),(0:Int),false) x.2.2.2.2.1 (toN x.1)).1,x.2.1,(getAt ((0:Int),(0:Int),(0:Int),false) x.2.2.2.2.1 (toN x.1)).2.2)) (toN x.1)).2.1,(0:Int),(getAt ((0:Int),(0:Int),(0:Int),false) (List.set x.2.2.2.2.1 (toN x.1) ((getAt ((0:Int),(0:Int),(0:Int),false) x.2.2.2.2.1 (toN x.1)).1,x.2.1,(getAt ((0:Int),(0:Int),(0:Int),false) x.2.2.2.2.1 (toN x.1)).2.2)) (toN x.1)).2.2.2)) (toN x.1) ((getAt ((0:Int),(0:Int),(0:Int),false) (List.set (List.set x.2.2.2.2.1 (toN x.1) ((getAt ((0:Int),(0:Int),(0:Int),false) x.2.2.2.2.1 (toN x.1)).1,x.2.1,(getAt ((0:Int),(0:Int),(0:Int),false) x.2.2.2.2.1 (toN x.1)).2.2)) (toN x.1) ((getAt ((0:Int),(0:Int),(0:Int),false) (List.set x.2.2.2.2.1 (toN x.1) ((getAt ((0:Int),(0:Int),(0:Int),false) x.2.2.2.2.1 (toN x.1)).1,x.2.1,(getAt ((0:Int),(0:Int),(0:Int),false) x.2.2.2.2.1 (toN x.1)).2.2)) (toN x.1)).1,(getAt ((0:Int),(0:Int),(0:Int),false) (List.set x.2.2.2.2.1 (toN x.1) ((getAt ((0:Int),(0:Int),(0:Int),false) x.2.2.2.2.1 (toN x.1)).1,x.2.1,(getAt ((0:Int),(0:Int),(0:Int),false) x.2.2.2.2.1 (toN x.1)).2.2)) (toN x.1)).2.1,(0:Int),(getAt ((0:Int),(0:Int),(0:Int),false) (List.set x.2.2.2.2.1 (toN x.1) ((getAt ((0:Int),(0:Int),(0:Int),false) x.2.2.2.2.1 (toN x.1)).1,x.2.1,(getAt ((0:Int),(0:Int),(0:Int),false) x.2.2.2.2.1 (toN x.1)).2.2)) (toN x.1)).2.2.2)) (toN x.1)).1,(getAt ((0:Int),(0:Int),(0:Int),false) (List.set (List.set x.2.2.2.2.1 (toN x.1) ((getAt ((0:Int),(0:Int),(0:Int),false) x.2.2.2.2.1 (toN x.1)).1,x.2.1,(getAt ((0:Int),(0:Int),(0:Int),false) x.2.2.2.2.1 (toN x.1)).2.2)) (toN x.1) ((getAt ((0:Int),(0:Int),(0:Int),false) (List.set x.2.2.2.2.1 (toN x.1) ((getAt ((0:Int),(0:Int),(0:Int),false) x.2.2.2.2.1 (toN x.1)).1,x.2.1,(getAt ((0:Int),(0:Int),(0:Int),false) x.2.2.2.2.1 (toN x.1)).2.2)) (toN x.1)).1,(getAt ((0:Int),(0:Int),(0:Int),false) (List.set x.2.2.2.2.1 (toN x.1) ((getAt ((0:Int),(0:Int),(0:Int),false) x.2.2.2.2.1 (toN x.1)).1,x.2.1,(getAt ((0:Int),(0:Int),(0:Int),false) x.2.2.2.2.1 (toN x.1)).2.2)) (toN x.1)).2.1,(0:Int),(getAt ((0:Int),(0:Int),(0:Int),false) (List.set x.2.2.2.2.1 (toN x.1) ((getAt ((0:Int),(0:Int),(0:Int),false) x.2.2.2.2.1 (toN x.1)).1,x.2.1,(getAt ((0:Int),(0:Int),(0:Int),false) x.2.2.2.2.1 (toN x.1)).2.2)) (toN x.1)).2.2.2)) (toN x.1)).2.1,(2:Int),(getAt ((0:Int),(0:Int),(0:Int),false) (List.set (List.set x.2.2.2.2.1 (toN x.1) ((getAt ((0:Int),(0:Int),(0:Int),false) x.2.2.2.2.1 (toN x.1)).1,x.2.1,(getAt ((0:Int),(0:Int),(0:Int),false) x.2.2.2.2.1 (toN x.1)).2.2)) (toN x.1) ((getAt ((0:Int),(0:Int),(0:Int),false) (List.set x.2.2.2.2.1 (toN x.1) ((getAt ((0:Int),(0:Int),(0:Int),false) x.2.2.2.2.1 (toN x.1)).1,x.2.1,(getAt ((0:Int),(0:Int),(0:Int),false) x.2.2.2.2.1 (toN x.1)).2.2)) (toN x.1)).1,(getAt ((0:Int),(0:Int),(0:Int),false) (List.set x.2.2.2.2.1 (toN x.1) ((getAt ((0:Int),(0:Int),(0:Int),false) x.2.2.2.2.1 (toN x.1)).1,x.2.1,(getAt ((0:Int),(0:Int),(0:Int),false) x.2.2.2.2.1 (toN x.1)).2.2)) (toN x.1)).2.1,(0:Int),(getAt ((0:Int),(0:Int),(0:Int),false) (List.set x.2.2.2.2.1 (toN x.1) ((getAt ((0:Int),(0:Int),(0:Int),false) x.2.2.2.2.1 (toN x.1)).1,x.2.1,(getAt ((0:Int),(0:Int),(0:Int),false) x.2.2.2.2.1 (toN x.1)).2.2)) (toN x.1)).2.2.2)) (toN x.1)).2.2.2)),x.2.2.2.2.2.1,x.2.2.2.2.2.2.1,x.2.2.2.2.2.2.2.1,x.2.2.2.2.2.2.2.2)
 else
 some (x.2.2.1,x.2.2.2.1,(List.set (List.set x.2.2.2.2.1 (toN x.1) ((getAt ((0:Int),(0:Int),(0:Int),false) x.2.2.2.2.1 (toN x.1)).1,x.2.1,(getAt ((0:Int),(0:Int),(0:Int),false) x.2.2.2.2.1 (toN x.1)).2.2)) (toN x.1) ((getAt ((0:Int),(0:Int),(0:Int),false) (List.set x.2.2.2.2.1 (toN x.1) ((getAt ((0:Int),(0:Int),(0:Int),false) x.2.2.2.2.1 (toN x.1)).1,x.2.1,(getAt ((0:Int),(0:Int),(0:Int),false) x.2.2.2.2.1 (toN x.1)).2.2)) (toN x.1)).1,(getAt ((0:Int),(0:Int),(0:Int),false) (List.set x.2.2.2.2.1 (toN x.1) ((getAt ((0:Int),(0:Int),(0:Int),false) x.2.2.2.2.1 (toN x.1)).1,x.2.1,(getAt ((0:Int),(0:Int),(0:Int),false) x.2.2.2.2.1 (toN x.1)).2.2)) (toN x.1)).2.1,(0:Int),(getAt ((0:Int),(0:Int),(0:Int),false) (List.set x.2.2.2.2.1 (toN x.1) ((getAt ((0:Int),(0:Int),(0:Int),false) x.2.2.2.2.1 (toN x.1)).1,x.2.1,(getAt ((0:Int),(0:Int),(0:Int),false) x.2.2.2.2.1 (toN x.1)).2.2)) (toN x.1)).2.2.2)),x.2.2.2.2.2.1,x.2.2.2.2.2.2.1,x.2.2.2.2.2.2.2.1,x.2.2.2.2.2.2.2.2)
 else
 none
 else
 none
abbrev Z107:=Spec.shp Zph Zuu Z24
def Zfi:Ctx:={ tb:=mkTb T2.tbl,fx:=[],sum:=[],nt:=39,pin:=1,nr:=true,ys:=[] }
theorem Z25:Sound Tryz.prog 41 (Z107) :=
 Sound.shp (C:=Zfi) (fn:=Tryz.f41) (by kernel_rfl) (c:=bodyOf Tryz.f41) (by kernel_rfl) (by decide) (ctxOK mixed tbl_ok rfl trivial trivial) (SumOK.of trivial) (by kernel_rfl) Zph Zuu rfl (by decide) (by decide) rfl (by decide) rfl Z24 (fun x=>by kernel_rfl)
abbrev Zpw:Shape:={ sl:=[(0,(.hole y12)),(1,(.ptr 0 []))],bl:=bl_3,ts:=[y12,(.int .i64)],pin:=0 }
abbrev Zv9:Shape:={ sl:=sl_1,bl:=bl_3,ts:=[.bool,(.int .i64)],pin:=1 }
def Z2w (x:(T17 × Int)):Option T0 :=
 some ((x.1.2.2.1 == x.2),x.2)
abbrev Z10m:=Spec.shp Zpw Zv9 Z2w
def Zfy:Ctx:={ tb:=mkTb T2.tbl,fx:=[],sum:=[],nt:=8,pin:=1,nr:=true,ys:=[] }
theorem Z2x:Sound Tryz.prog 96 (Z10m) :=
 Sound.shp (C:=Zfy) (fn:=Tryz.f96) (by kernel_rfl) (c:=bodyOf Tryz.f96) (by kernel_rfl) (by decide) (ctxOK mixed tbl_ok rfl trivial trivial) (SumOK.of trivial) (by kernel_rfl) Zpw Zv9 rfl (by decide) (by decide) rfl (by decide) rfl Z2w (fun x=>by kernel_rfl)
theorem Z2y:Sound Tryz.prog 96 (Spec.shpR Zpw Zv9 Z2w) :=
 Sound.shpR (fun x y h=>by have h:=Option.some.inj h; subst h; rfl) Z2x
abbrev Zo7:Shape:={ sl:=[(0,(.sl 0)),(1,(.fn 96 .nil (.cons (.ptr 1 []) .nil))),(7,(.hole (.int .i64))),(8,(.hole (.int .i64)))],bl:=bl_4,ts:=[(.int .i64),(.int .i64),y18,(.int .i64)],pin:=2 }
abbrev Zml:List (ETag × Shape):=[(.ret,{ sl:=sl_3,bl:=bl_4,ts:=[(.int .i64),y18,(.int .i64)],pin:=2 }),(.exit 0,{ sl:=[],bl:=bl_4,ts:=[y18,(.int .i64)],pin:=2 })]
def Zdq (x:(Int × Int × List (T17) × Int)):Option ((Int × Int × List (T17) × Int) ⊕ ((Int × List (T17) × Int) ⊕ (List (T17) × Int))) :=
 bif (decide (x.2.1 < x.1)) then
 bif (inb x.2.1 (List.length x.2.2.1)) then
 (Z2w ((getAt ((0:Int),(0:Int),(0:Int),false) x.2.2.1 (toN x.2.1)),x.2.2.2)).bind fun r12 =>
 bif r12.1 then
 some (.inr (.inl (x.2.1,x.2.2.1,x.2.2.2)))
 else
 some (.inl (x.1,(IntKind.wrap .i64 (x.2.1+(1:Int))),x.2.2.1,x.2.2.2))
 else
 none
 else
 some (.inr (.inr (x.2.2.1,x.2.2.2)))
def Zkj:Ctx:={ tb:=mkTb T2.tbl,fx:=[(96,[],Spec.shpR Zpw Zv9 Z2w)],sum:=[],nt:=19,pin:=2,nr:=true,ys:=[] }
theorem Zdr:CSound Tryz.prog ⟨19,2,true⟩ (.loop (loopOf 3 Tryz.f156)) (Yay Zo7 Zml (loop Zdq)) :=
 Y8c (C:=Zkj) (ctxOK mixed tbl_ok rfl ⟨Z2y,trivial⟩ trivial) (SumOK.of trivial) Zo7 Zml rfl rfl Zdq (fun x=>by kernel_rfl)
abbrev Ztc:Shape:={ sl:=[(0,(.sl 0)),(1,(.fn 96 .nil (.cons (.ptr 1 []) .nil)))],bl:=bl_4,ts:=[y18,(.int .i64)],pin:=0 }
abbrev Zyp:Shape:={ sl:=sl_2,bl:=bl_4,ts:=[(.int .i64),y18,(.int .i64)],pin:=2 }
def Z9x (x:(List (T17) × Int)):Option (Int × List (T17) × Int) :=
 (loop Zdq ((((List.length x.1):Nat):Int),(0:Int),x.1,x.2)).bind fun r11 =>
 match r11 with
 | .inl y12 =>
 some (y12.1,y12.2.1,y12.2.2)
 | .inr y12 =>
 some ((Int.negSucc 0),y12.1,y12.2)
abbrev Z141:=Spec.shp Ztc Zyp Z9x
def Zki:Ctx:={ tb:=mkTb T2.tbl,fx:=[(96,[],Spec.shpR Zpw Zv9 Z2w)],sum:=[(0,3,Yay Zo7 Zml (loop Zdq))],nt:=19,pin:=2,nr:=true,ys:=[] }
theorem Z9y:Sound Tryz.prog 156 (Z141) :=
 Sound.shp (C:=Zki) (fn:=Tryz.f156) (by kernel_rfl) (c:=bodyOf Tryz.f156) (by kernel_rfl) (by decide) (ctxOK mixed tbl_ok rfl ⟨Z2y,trivial⟩ trivial) (SumOK.of ⟨(Yb0 (d:=.loop (loopOf 3 Tryz.f156)) (by kernel_rfl) Zdr),trivial⟩) (by kernel_rfl) Ztc Zyp rfl (by decide) (by decide) rfl (by decide) rfl Z9x (fun x=>by kernel_rfl)
abbrev Zt3:Shape:={ sl:=[(0,(.sl 0)),(1,(.fn 96 .nil (.cons (.ptr 1 []) .nil)))],bl:=bl_4,ts:=[y18,(.int .i64)],pin:=0 }
abbrev Zyg:Shape:={ sl:=sl_1,bl:=bl_4,ts:=[.bool,y18,(.int .i64)],pin:=2 }
def Z9f (x:(List (T17) × Int)):Option (Bool × List (T17) × Int) :=
 (Z9x (x.1,x.2)).bind fun r10 =>
 some ((decide (r10.1 ≥ (0:Int))),r10.2.1,r10.2.2)
abbrev Z13s:=Spec.shp Zt3 Zyg Z9f
def Zk6:Ctx:={ tb:=mkTb T2.tbl,fx:=[(156,[2000000,96],Z141)],sum:=[],nt:=9,pin:=2,nr:=true,ys:=[] }
theorem Z9g:Sound Tryz.prog 95 (Z13s) :=
 Sound.shp (C:=Zk6) (fn:=Tryz.f95) (by kernel_rfl) (c:=bodyOf Tryz.f95) (by kernel_rfl) (by decide) (ctxOK mixed tbl_ok rfl ⟨Z9y,trivial⟩ trivial) (SumOK.of trivial) (by kernel_rfl) Zt3 Zyg rfl (by decide) (by decide) rfl (by decide) rfl Z9f (fun x=>by kernel_rfl)
abbrev Zpv:Shape:={ sl:=[(0,(.hole (.int .i64))),(1,(.ptr 0 []))],bl:=bl_5,ts:=ts_10,pin:=0 }
abbrev Zv8:Shape:={ sl:=sl_1,bl:=bl_5,ts:=[.bool,y39,y4,y18,y41,y19,y26,y27],pin:=2 }
def Z2v (x:T58):Option (Bool × T47 × (Int × Int) × List (T17) × List T43 × List (T18) × List T29 × List (T20)) :=
 (Z9f (x.2.2.2.1,x.1)).bind fun r9 =>
 some (r9.1,x.2.1,x.2.2.1,r9.2.1,x.2.2.2.2.1,x.2.2.2.2.2.1,x.2.2.2.2.2.2.1,x.2.2.2.2.2.2.2)
abbrev Z10l:=Spec.shp Zpv Zv8 Z2v
def Zfx:Ctx:={ tb:=mkTb T2.tbl,fx:=[(95,[2000000,96],Z13s)],sum:=[],nt:=11,pin:=2,nr:=true,ys:=[] }
theorem Z2z:Sound Tryz.prog 94 (Z10l) :=
 Sound.shp (C:=Zfx) (fn:=Tryz.f94) (by kernel_rfl) (c:=bodyOf Tryz.f94) (by kernel_rfl) (by decide) (ctxOK mixed tbl_ok rfl ⟨Z9g,trivial⟩ trivial) (SumOK.of trivial) (by kernel_rfl) Zpv Zv8 rfl (by decide) (by decide) rfl (by decide) rfl Z2v (fun x=>by kernel_rfl)
abbrev Zpu:Shape:={ sl:=sl_15,bl:=bl_2,ts:=ts_11,pin:=0 }
abbrev Zv7:Shape:={ sl:=[],bl:=bl_2,ts:=ts_11,pin:=1 }
def Z2u (x:T57):Option T57 :=
 bif (x.2.1.2 != (0:Int)) then
 some (x.1,x.2.1,x.2.2.1,x.2.2.2.1,x.2.2.2.2.1,x.2.2.2.2.2.1,x.2.2.2.2.2.2)
 else
 (Z2v ((0:Int),x.1,x.2.1,x.2.2.1,x.2.2.2.1,x.2.2.2.2.1,x.2.2.2.2.2.1,x.2.2.2.2.2.2)).bind fun r8 =>
 bif r8.1 then
 some (r8.2.1,r8.2.2.1,r8.2.2.2.1,r8.2.2.2.2.1,r8.2.2.2.2.2.1,r8.2.2.2.2.2.2.1,r8.2.2.2.2.2.2.2)
 else
 (Z2v ((1:Int),r8.2.1,r8.2.2.1,r8.2.2.2.1,r8.2.2.2.2.1,r8.2.2.2.2.2.1,r8.2.2.2.2.2.2.1,r8.2.2.2.2.2.2.2)).bind fun r9 =>
 bif r9.1 then
 some (r9.2.1,(r9.2.2.1.1,(2:Int)),r9.2.2.2.1,r9.2.2.2.2.1,r9.2.2.2.2.2.1,r9.2.2.2.2.2.2.1,r9.2.2.2.2.2.2.2)
 else
 some (r9.2.1,(r9.2.2.1.1,(1:Int)),r9.2.2.2.1,r9.2.2.2.2.1,r9.2.2.2.2.2.1,r9.2.2.2.2.2.2.1,r9.2.2.2.2.2.2.2)
abbrev Z10k:=Spec.shp Zpu Zv7 Z2u
def Zfw:Ctx:={ tb:=mkTb T2.tbl,fx:=[(94,[],Spec.thin (Z10l))],sum:=[],nt:=26,pin:=1,nr:=true,ys:=[] }
theorem Z30:Sound Tryz.prog 42 (Z10k) :=
 Sound.shp (C:=Zfw) (fn:=Tryz.f42) (by kernel_rfl) (c:=bodyOf Tryz.f42) (by kernel_rfl) (by decide) (ctxOK mixed tbl_ok rfl ⟨Z2z.thin,trivial⟩ trivial) (SumOK.of trivial) (by kernel_rfl) Zpu Zv7 rfl (by decide) (by decide) rfl (by decide) rfl Z2u (fun x=>by kernel_rfl)
abbrev Zp1:Shape:={ sl:=sl_6,bl:=[],ts:=[y39],pin:=0 }
abbrev Zue:Shape:={ sl:=[(0,(.hole y45)),(1,(.hole y27)),(2,(.hole (.int .i64)))],bl:=[],ts:=[y45,y27,(.int .i64)],pin:=0 }
def Z18 (x:(T47)):Option ((T47 × T61) × List (T20) × Int) :=
 (Z77 x).bind fun r3 =>
 bif (Bool.not r3) then
 some (((([]:List Int),(0:Int),(0:Int),(0:Int),([]:List T21),([]:List (List T7))),([]:List T17),([]:List (Int × T41)),([]:List T22),([]:List (Int × T14)),(0:Int),(0:Int)),([]:List T20),(1:Int))
 else
 bif (mkOK x.2.1 x.2.1) then
 bif (mkOK x.2.2.1 x.2.2.1) then
 (loop Zb1 (x.1,(((List.length x.1):Nat):Int),(0:Int),(0:Int),(0:Int),(0:Int),((0:Int),(0:Int)),x,((0:Int),(0:Int)),(((0:Int),(0:Int),(0:Int),false) :: ([]:List T17)),([]:List (Int × T41)),(List.replicate (toN x.2.1) (false,([]:List T7))),(List.replicate (toN x.2.2.1) ((0:Int),(0:Int),([]:List T7))))).bind fun r4 =>
 (Z35 ((0:Int),(0:Int),(0:Int),(0:Int),(Int.negSucc 0),r4.2.2.2.2.1,r4.2.2.2.2.2.1,r4.2.2.2.2.2.2.1,r4.2.2.2.2.2.2.2.1,r4.2.2.2.2.2.2.2.2.1,r4.2.2.2.2.2.2.2.2.2,([]:List T20))).bind fun r5 =>
 (Z24 ((0:Int),(0:Int),r5.2.1,r5.2.2.1,r5.2.2.2.1,r5.2.2.2.2.1,r5.2.2.2.2.2.1,r5.2.2.2.2.2.2.1,r5.2.2.2.2.2.2.2)).bind fun r6 =>
 (Z2u (r6.1,r6.2.1,r6.2.2.1,r6.2.2.2.1,r6.2.2.2.2.1,r6.2.2.2.2.2.1,r6.2.2.2.2.2.2)).bind fun r7 =>
 some ((r7.1,r7.2.2.1,r7.2.2.2.1,r7.2.2.2.2.1,r7.2.2.2.2.2.1,r7.2.1),r7.2.2.2.2.2.2,(0:Int))
 else
 none
 else
 none
abbrev Zzr:=Spec.shp Zp1 Zue Z18
def Zev:Ctx:={ tb:=mkTb T2.tbl,fx:=[(38,[],Z12p),(39,[],Zz8),(40,[],Z10p),(41,[],Z107),(42,[],Z10k)],sum:=[(0,6,Yay Zmw Zla (loop Zb1))],nt:=61,pin:=0,nr:=true,ys:=[] }
theorem Z19:Sound Tryz.prog 14 (Zzr) :=
 Sound.shp (C:=Zev) (fn:=Tryz.f14) (by kernel_rfl) (c:=bodyOf Tryz.f14) (by kernel_rfl) (by decide) (ctxOK mixed tbl_ok rfl ⟨Z78,Z5,Z36,Z25,Z30,trivial⟩ trivial) (SumOK.of ⟨(Yb0 (d:=.loop (loopOf 6 Tryz.f14)) (by kernel_rfl) Zb2),trivial⟩) (by kernel_rfl) Zp1 Zue rfl (by decide) (by decide) rfl (by decide) rfl Z18 (fun x=>by kernel_rfl)
abbrev Zp4:Shape:={ sl:=[(0,(.hole y39)),(1,(.hole y12))],bl:=[],ts:=[y39,y12],pin:=0 }
abbrev Zuh:Shape:={ sl:=sl_1,bl:=[],ts:=ts_1,pin:=0 }
def Z1e (x:(T47 × T17)):Option (Bool) :=
 bif (decide (x.2.1 < (0:Int))) then
 some false
 else
 bif (decide (x.2.1 ≥ (((List.length x.1.2.2.2.2.2):Nat):Int))) then
 some false
 else
 bif (decide (x.2.2.1 < (0:Int))) then
 some false
 else
 bif (inb x.2.1 (List.length x.1.2.2.2.2.2)) then
 bif (decide (x.2.2.1 > (((List.length (getAt ([]:List T7) x.1.2.2.2.2.2 (toN x.2.1))):Nat):Int))) then
 some false
 else
 bif (decide (x.2.2.2.1 ≥ (0:Int))) then
 bif (decide (x.2.2.2.1 ≤ (2:Int))) then
 bif (inb x.2.1 (List.length x.1.2.2.2.2.2)) then
 some ((x.2.2.1 == (((List.length (getAt ([]:List T7) x.1.2.2.2.2.2 (toN x.2.1))):Nat):Int)) == (x.2.2.2.1 == (2:Int)))
 else
 none
 else
 some false
 else
 some false
 else
 none
abbrev Zzu:=Spec.shp Zp4 Zuh Z1e
def Zez:Ctx:={ tb:=mkTb T2.tbl,fx:=[],sum:=[],nt:=57,pin:=0,nr:=true,ys:=[] }
theorem Z1f:Sound Tryz.prog 108 (Zzu) :=
 Sound.shp (C:=Zez) (fn:=Tryz.f108) (by kernel_rfl) (c:=bodyOf Tryz.f108) (by kernel_rfl) (by decide) (ctxOK mixed tbl_ok rfl trivial trivial) (SumOK.of trivial) (by kernel_rfl) Zp4 Zuh rfl (by decide) (by decide) rfl (by decide) rfl Z1e (fun x=>by kernel_rfl)
abbrev Zp7:Shape:={ sl:=[(0,(.hole y12)),(1,(.ptr 0 []))],bl:=bl_0,ts:=[y12,y39],pin:=0 }
abbrev Zuk:Shape:={ sl:=sl_1,bl:=bl_0,ts:=[.bool,y39],pin:=1 }
def Z1j (x:(T17 × T47)):Option (Bool × T47) :=
 (Z1e (x.2,x.1)).bind fun r11 =>
 some ((Bool.not r11),x.2)
abbrev Zzx:=Spec.shp Zp7 Zuk Z1j
def Zf3:Ctx:={ tb:=mkTb T2.tbl,fx:=[(108,[],Zzu)],sum:=[],nt:=8,pin:=1,nr:=true,ys:=[] }
theorem Z1k:Sound Tryz.prog 107 (Zzx) :=
 Sound.shp (C:=Zf3) (fn:=Tryz.f107) (by kernel_rfl) (c:=bodyOf Tryz.f107) (by kernel_rfl) (by decide) (ctxOK mixed tbl_ok rfl ⟨Z1f,trivial⟩ trivial) (SumOK.of trivial) (by kernel_rfl) Zp7 Zuk rfl (by decide) (by decide) rfl (by decide) rfl Z1j (fun x=>by kernel_rfl)
abbrev Zo6:Shape:={ sl:=[(0,(.hole y18)),(1,(.fn 107 .nil (.cons (.ptr 0 []) .nil))),(7,(.hole (.int .i64))),(8,(.hole (.int .i64)))],bl:=bl_0,ts:=[y18,(.int .i64),(.int .i64),y39],pin:=1 }
abbrev Zmk:List (ETag × Shape):=[(.ret,{ sl:=sl_3,bl:=bl_0,ts:=[(.int .i64),y39],pin:=1 }),(.exit 0,{ sl:=[],bl:=bl_0,ts:=[y39],pin:=1 })]
def Zdo (x:(List (T17) × Int × Int × T47)):Option ((List (T17) × Int × Int × T47) ⊕ ((Int × T47) ⊕ (T47))) :=
 bif (decide (x.2.2.1 < x.2.1)) then
 bif (inb x.2.2.1 (List.length x.1)) then
 (Z1j ((getAt ((0:Int),(0:Int),(0:Int),false) x.1 (toN x.2.2.1)),x.2.2.2)).bind fun r10 =>
 bif r10.1 then
 some (.inr (.inl (x.2.2.1,r10.2)))
 else
 some (.inl (x.1,x.2.1,(IntKind.wrap .i64 (x.2.2.1+(1:Int))),r10.2))
 else
 none
 else
 some (.inr (.inr x.2.2.2))
def Zkh:Ctx:={ tb:=mkTb T2.tbl,fx:=[(107,[],Zzx)],sum:=[],nt:=19,pin:=1,nr:=true,ys:=[] }
theorem Zdp:CSound Tryz.prog ⟨19,1,true⟩ (.loop (loopOf 3 Tryz.f156)) (Yay Zo6 Zmk (loop Zdo)) :=
 Y8c (C:=Zkh) (ctxOK mixed tbl_ok rfl ⟨Z1k,trivial⟩ trivial) (SumOK.of trivial) Zo6 Zmk rfl rfl Zdo (fun x=>by kernel_rfl)
abbrev Ztb:Shape:={ sl:=[(0,(.hole y18)),(1,(.fn 107 .nil (.cons (.ptr 0 []) .nil)))],bl:=bl_0,ts:=[y18,y39],pin:=0 }
abbrev Zyo:Shape:={ sl:=sl_2,bl:=bl_0,ts:=[(.int .i64),y39],pin:=1 }
def Z9v (x:(List (T17) × T47)):Option (Int × T47) :=
 (loop Zdo (x.1,(((List.length x.1):Nat):Int),(0:Int),x.2)).bind fun r9 =>
 match r9 with
 | .inl y10 =>
 some (y10.1,y10.2)
 | .inr y10 =>
 some ((Int.negSucc 0),y10)
abbrev Z140:=Spec.shp Ztb Zyo Z9v
def Zkg:Ctx:={ tb:=mkTb T2.tbl,fx:=[(107,[],Zzx)],sum:=[(0,3,Yay Zo6 Zmk (loop Zdo))],nt:=19,pin:=1,nr:=true,ys:=[] }
theorem Z9w:Sound Tryz.prog 156 (Z140) :=
 Sound.shp (C:=Zkg) (fn:=Tryz.f156) (by kernel_rfl) (c:=bodyOf Tryz.f156) (by kernel_rfl) (by decide) (ctxOK mixed tbl_ok rfl ⟨Z1k,trivial⟩ trivial) (SumOK.of ⟨(Yb0 (d:=.loop (loopOf 3 Tryz.f156)) (by kernel_rfl) Zdp),trivial⟩) (by kernel_rfl) Ztb Zyo rfl (by decide) (by decide) rfl (by decide) rfl Z9v (fun x=>by kernel_rfl)
abbrev Zt2:Shape:={ sl:=[(0,(.hole y18)),(1,(.fn 107 .nil (.cons (.ptr 0 []) .nil)))],bl:=bl_0,ts:=[y18,y39],pin:=0 }
abbrev Zyf:Shape:={ sl:=sl_1,bl:=bl_0,ts:=[.bool,y39],pin:=1 }
def Z9d (x:(List (T17) × T47)):Option (Bool × T47) :=
 (Z9v (x.1,x.2)).bind fun r8 =>
 some ((decide (r8.1 ≥ (0:Int))),r8.2)
abbrev Z13r:=Spec.shp Zt2 Zyf Z9d
def Zk5:Ctx:={ tb:=mkTb T2.tbl,fx:=[(156,[107],Z140)],sum:=[],nt:=9,pin:=1,nr:=true,ys:=[] }
theorem Z9e:Sound Tryz.prog 95 (Z13r) :=
 Sound.shp (C:=Zk5) (fn:=Tryz.f95) (by kernel_rfl) (c:=bodyOf Tryz.f95) (by kernel_rfl) (by decide) (ctxOK mixed tbl_ok rfl ⟨Z9w,trivial⟩ trivial) (SumOK.of trivial) (by kernel_rfl) Zt2 Zyf rfl (by decide) (by decide) rfl (by decide) rfl Z9d (fun x=>by kernel_rfl)
abbrev Zsk:Shape:={ sl:=[(0,(.hole y21))],bl:=[],ts:=[y21],pin:=0 }
abbrev Zxx:Shape:={ sl:=sl_1,bl:=[],ts:=ts_1,pin:=0 }
def Z8d (x:(T16)):Option (Bool) :=
 bif (decide (x.1 ≥ (0:Int))) then
 bif (decide (x.1 ≤ (8:Int))) then
 bif ((((List.length x.2.2.1):Nat):Int) == x.1) then
 bif (decide (x.2.2.2 ≥ (0:Int))) then
 bif (decide (x.2.2.2 ≤ x.1)) then
 bif (decide (x.2.1 ≥ (0:Int))) then
 some (decide (x.2.1 < (Max.max (1:Int) x.1)))
 else
 some false
 else
 some false
 else
 some false
 else
 some false
 else
 some false
 else
 some false
abbrev Z139:=Spec.shp Zsk Zxx Z8d
def Zjl:Ctx:={ tb:=mkTb T2.tbl,fx:=[],sum:=[],nt:=46,pin:=0,nr:=true,ys:=[] }
theorem Z8e:Sound Tryz.prog 196 (Z139) :=
 Sound.shp (C:=Zjl) (fn:=Tryz.f196) (by kernel_rfl) (c:=bodyOf Tryz.f196) (by kernel_rfl) (by decide) (ctxOK mixed tbl_ok rfl trivial trivial) (SumOK.of trivial) (by kernel_rfl) Zsk Zxx rfl (by decide) (by decide) rfl (by decide) rfl Z8d (fun x=>by kernel_rfl)
abbrev Zsl:Shape:={ sl:=[(0,(.hole (.one y21)))],bl:=[],ts:=[(.one y21)],pin:=0 }
abbrev Zxy:Shape:={ sl:=[(0,(.fn 231 .nil (.cons (.ptr 0 []) .nil)))],bl:=[.var (.hole (.one y21))],ts:=[(.one y21)],pin:=0 }
def Z8f (x:(T16)):Option (T16) :=
 some x
abbrev Z13a:=Spec.shp Zsl Zxy Z8f
def Zjm:Ctx:={ tb:=mkTb T2.tbl,fx:=[],sum:=[],nt:=4,pin:=0,nr:=true,ys:=[] }
theorem Z8i:Sound Tryz.prog 197 (Z13a) :=
 Sound.shp (C:=Zjm) (fn:=Tryz.f197) (by kernel_rfl) (c:=bodyOf Tryz.f197) (by kernel_rfl) (by decide) (ctxOK mixed tbl_ok rfl trivial trivial) (SumOK.of trivial) (by kernel_rfl) Zsl Zxy rfl (by decide) (by decide) rfl (by decide) rfl Z8f (fun x=>by kernel_rfl)
abbrev Zsg:Shape:={ sl:=[(4,(.ptr 0 [])),(12,(.hole (.int .i64)))],bl:=[.var (.sl 1),.row (.int .i64)],ts:=[(.int .i64),y0],pin:=0 }
abbrev Zxt:Shape:={ sl:=sl_2,bl:=[.var (.sl 1),.row (.int .i64)],ts:=[(.int .i64),y0],pin:=1 }
def Z85 (x:T3):Option T3 :=
 bif (fits ((List.length x.2)+(List.length (x.1 :: ([]:List Int))))) then
 some ((0:Int),(x.2++(x.1 :: ([]:List Int))))
 else
 none
def Zjh:Ctx:={ tb:=mkTb T2.tbl,fx:=[],sum:=[],nt:=18,pin:=1,nr:=false,ys:=[] }
theorem Z86:YSound Tryz.prog 10485766 [4] (Spec.rnd [4,12] Zsg Zxt Z85) :=
 YSound.rnd (C:=Zjh) (rt:=⟨rfPs (rfOf 6 Tryz.f160),rfAs (rfOf 6 Tryz.f160),rfBody (rfOf 6 Tryz.f160),18⟩) (by kernel_rfl) (ctxOK mixed tbl_ok rfl trivial) (SumOK.of trivial) (SumOK.of trivial) rfl rfl [4] Zsg Zxt rfl (by decide) (by decide) rfl (fun y=>⟨_,rfl⟩) (of_decide_eq_true (by kernel_rfl)) (of_decide_eq_true (by kernel_rfl)) Z85 (fun x=>by kernel_rfl)
abbrev Zsn:Shape:={ sl:=[(0,(.hole (.one y21))),(1,(.hole (.int .i64)))],bl:=[],ts:=[(.one y21),(.int .i64)],pin:=0 }
abbrev Zy0:Shape:={ sl:=sl_2,bl:=[],ts:=ts_2,pin:=0 }
def Z8j (x:(T16 × Int)):Option (Int) :=
 bif (x.1.1 != (0:Int)) then
 some (Int.tmod (IntKind.wrap .i64 (x.1.2.1+x.2)) x.1.1)
 else
 none
abbrev Z13c:=Spec.shp Zsn Zy0 Z8j
def Zjp:Ctx:={ tb:=mkTb T2.tbl,fx:=[],sum:=[],nt:=14,pin:=0,nr:=true,ys:=[] }
theorem Z8m:Sound Tryz.prog 232 (Z13c) :=
 Sound.shp (C:=Zjp) (fn:=Tryz.f232) (by kernel_rfl) (c:=bodyOf Tryz.f232) (by kernel_rfl) (by decide) (ctxOK mixed tbl_ok rfl trivial trivial) (SumOK.of trivial) (by kernel_rfl) Zsn Zy0 rfl (by decide) (by decide) rfl (by decide) rfl Z8j (fun x=>by kernel_rfl)
abbrev Zo2:Shape:={ sl:=[(0,(.yl 0)),(1,(.ptr 1 [])),(6,(.hole (.int .i64))),(7,(.hole (.int .i64)))],bl:=bl_6,ts:=[(.int .i64),(.int .i64),(.one y21),y0],pin:=3 }
abbrev Zmg:List (ETag × Shape):=[(.ret,{ sl:=[],bl:=bl_7,ts:=[(.int .i64),(.one y21),y0],pin:=3 }),(.exit 0,{ sl:=[],bl:=bl_6,ts:=[(.one y21),y0],pin:=3 })]
def Zdg (x:(Int × Int × T16 × List Int)):Option ((Int × Int × T16 × List Int) ⊕ (T33 ⊕ (T16 × List Int))) :=
 bif (decide (x.2.1 < x.1)) then
 (Z8j (x.2.2.1,x.2.1)).bind fun r15 =>
 bif (inb r15 (List.length x.2.2.1.2.2.1)) then
 (Z85 ((getAt (0:Int) x.2.2.1.2.2.1 (toN r15)),x.2.2.2)).bind fun r16 =>
 bif (eqI r16.1 (0:Int)) then
 some (.inl (x.1,(IntKind.wrap .i64 (x.2.1+(1:Int))),x.2.2.1,r16.2))
 else
 some (.inr (.inl (r16.1,x.2.2.1,r16.2)))
 else
 none
 else
 some (.inr (.inr (x.2.2.1,x.2.2.2)))
def Zjo:Ctx:={ tb:=mkTb T2.tbl,fx:=[(232,[],Z13c)],sum:=[],nt:=22,pin:=3,nr:=true,ys:=[(10485766,[4],Spec.rnd [4,12] { sl:=[(4,(.ptr 0 [])),(12,(.hole (.int .i64)))],bl:=[.var (.sl 1),.row (.int .i64)],ts:=[(.int .i64),(.slice (.int .i64))],pin:=0 } { sl:=[(0,(.hole (.int .i64)))],bl:=[.var (.sl 1),.row (.int .i64)],ts:=[(.int .i64),(.slice (.int .i64))],pin:=1 } Z85)] }
theorem Zdh:CSound Tryz.prog ⟨22,3,true⟩ (.loop (loopOf 2 Tryz.f231)) (Yay Zo2 Zmg (loop Zdg)) :=
 Y8c (C:=Zjo) (ctxOK mixed tbl_ok rfl ⟨Z8m,trivial⟩ ⟨Z86,trivial⟩) (SumOK.of trivial) Zo2 Zmg rfl rfl Zdg (fun x=>by kernel_rfl)
abbrev Zsm:Shape:={ sl:=[(0,(.yl 0)),(1,(.ptr 1 []))],bl:=bl_6,ts:=[(.one y21),y0],pin:=0 }
abbrev Zxz:Shape:={ sl:=[],bl:=bl_7,ts:=[(.int .i64),(.one y21),y0],pin:=3 }
def Z8g (x:(T16 × List Int)):Option T33 :=
 (loop Zdg (x.1.2.2.2,(0:Int),x.1,x.2)).bind fun r14 =>
 match r14 with
 | .inl y15 =>
 some (y15.1,y15.2.1,y15.2.2)
 | .inr y15 =>
 some ((0:Int),y15.1,y15.2)
abbrev Z13b:=Spec.shp Zsm Zxz Z8g
def Zjn:Ctx:={ tb:=mkTb T2.tbl,fx:=[(232,[],Z13c)],sum:=[(0,2,Yay Zo2 Zmg (loop Zdg))],nt:=22,pin:=3,nr:=true,ys:=[(10485766,[4],Spec.rnd [4,12] Zsg Zxt Z85)] }
theorem Z8h:Sound Tryz.prog 231 (Z13b) :=
 Sound.shp (C:=Zjn) (fn:=Tryz.f231) (by kernel_rfl) (c:=bodyOf Tryz.f231) (by kernel_rfl) (by decide) (ctxOK mixed tbl_ok rfl ⟨Z8m,trivial⟩ ⟨Z86,trivial⟩) (SumOK.of ⟨(Yb0 (d:=.loop (loopOf 2 Tryz.f231)) (by kernel_rfl) Zdh),trivial⟩) (by kernel_rfl) Zsm Zxz rfl (by decide) (by decide) rfl (by decide) rfl Z8g (fun x=>by kernel_rfl)
abbrev Zsf:Shape:={ sl:=[(0,(.hole y21))],bl:=[],ts:=[y21],pin:=0 }
abbrev Zxs:Shape:={ sl:=sl_16,bl:=[],ts:=[y0,(.int .i64)],pin:=0 }
def Z83 (x:(T16)):Option T2 :=
 (Z8d x).bind fun r11 =>
 bif (Bool.not r11) then
 some (([]:List Int),(1:Int))
 else
 (Z8f x).bind fun r12 =>
 (Z8g (r12,([]:List Int))).bind fun r13 =>
 bif (eqI r13.1 (0:Int)) then
 some (r13.2.2,(0:Int))
 else
 bif (eqI r13.1 (1:Int)) then
 some (([]:List Int),(0:Int))
 else
 none
abbrev Z135:=Spec.shp Zsf Zxs Z83
def Zjg:Ctx:={ tb:=mkTb T2.tbl,fx:=[(196,[],Z139),(197,[],Z13a)],sum:=[(3,6,Ybp (rfF (rfOf 6 Tryz.f160)) 10485766 [4] [] [(231,[11485766],Z13b)])],nt:=18,pin:=0,nr:=true,ys:=[] }
theorem Z84:Sound Tryz.prog 160 (Z135) :=
 Sound.shp (C:=Zjg) (fn:=Tryz.f160) (by kernel_rfl) (c:=bodyOf Tryz.f160) (by kernel_rfl) (by decide) (ctxOK mixed tbl_ok rfl ⟨Z8e,Z8i,trivial⟩ trivial) (SumOK.of ⟨(Yb0 (d:=rfOf 6 Tryz.f160) (by kernel_rfl) (Ybr (c:=rfOf 6 Tryz.f160) rfl (by kernel_rfl) Z8h [4] [])),trivial⟩) (by kernel_rfl) Zsf Zxs rfl (by decide) (by decide) rfl (by decide) rfl Z83 (fun x=>by kernel_rfl)
abbrev Ztr:Shape:={ sl:=sl_17,bl:=[],ts:=[y5],pin:=0 }
abbrev Zz4:Shape:={ sl:=sl_1,bl:=[],ts:=ts_1,pin:=0 }
def Zat (x:(T7)):Option (Bool) :=
 bif (decide (x.1 ≥ (0:Int))) then
 bif (decide (x.2.1 ≥ (0:Int))) then
 some (decide (x.2.2 ≥ (0:Int)))
 else
 some false
 else
 some false
abbrev Z14g:=Spec.shp Ztr Zz4 Zat
def Zl5:Ctx:={ tb:=mkTb T2.tbl,fx:=[],sum:=[],nt:=16,pin:=0,nr:=true,ys:=[] }
theorem Zau:Sound Tryz.prog 199 (Z14g) :=
 Sound.shp (C:=Zl5) (fn:=Tryz.f199) (by kernel_rfl) (c:=bodyOf Tryz.f199) (by kernel_rfl) (by decide) (ctxOK mixed tbl_ok rfl trivial trivial) (SumOK.of trivial) (by kernel_rfl) Ztr Zz4 rfl (by decide) (by decide) rfl (by decide) rfl Zat (fun x=>by kernel_rfl)
abbrev Ztq:Shape:={ sl:=sl_17,bl:=[],ts:=[y5],pin:=0 }
abbrev Zz3:Shape:={ sl:=sl_1,bl:=[],ts:=ts_1,pin:=0 }
def Zaq (x:(T7)):Option (Bool) :=
 (Zat x).bind fun r16 =>
 some (Bool.not r16)
abbrev Z14f:=Spec.shp Ztq Zz3 Zaq
def Zl4:Ctx:={ tb:=mkTb T2.tbl,fx:=[(199,[],Z14g)],sum:=[],nt:=6,pin:=0,nr:=true,ys:=[] }
theorem Zar:Sound Tryz.prog 198 (Z14f) :=
 Sound.shp (C:=Zl4) (fn:=Tryz.f198) (by kernel_rfl) (c:=bodyOf Tryz.f198) (by kernel_rfl) (by decide) (ctxOK mixed tbl_ok rfl ⟨Zau,trivial⟩ trivial) (SumOK.of trivial) (by kernel_rfl) Ztq Zz3 rfl (by decide) (by decide) rfl (by decide) rfl Zaq (fun x=>by kernel_rfl)
abbrev Zoc:Shape:={ sl:=[(0,(.hole (.slice y5))),(1,(.fn 198 .nil .nil)),(7,(.hole (.int .i64))),(8,(.hole (.int .i64)))],bl:=[],ts:=[(.slice y5),(.int .i64),(.int .i64)],pin:=0 }
abbrev Zmq:List (ETag × Shape):=[(.ret,{ sl:=sl_3,bl:=[],ts:=ts_2,pin:=0 }),(.exit 0,{ sl:=[],bl:=[],ts:=[],pin:=0 })]
def Ze0 (x:(List (T7) × Int × Int)):Option ((List (T7) × Int × Int) ⊕ ((Int) ⊕ Unit)) :=
 bif (decide (x.2.2 < x.2.1)) then
 bif (inb x.2.2 (List.length x.1)) then
 (Zaq (getAt ((0:Int),(0:Int),(0:Int)) x.1 (toN x.2.2))).bind fun r15 =>
 bif r15 then
 some (.inr (.inl x.2.2))
 else
 some (.inl (x.1,x.2.1,(IntKind.wrap .i64 (x.2.2+(1:Int)))))
 else
 none
 else
 some (.inr (.inr ()))
def Zkt:Ctx:={ tb:=mkTb T2.tbl,fx:=[(198,[],Z14f)],sum:=[],nt:=19,pin:=0,nr:=true,ys:=[] }
theorem Ze1:CSound Tryz.prog ⟨19,0,true⟩ (.loop (loopOf 3 Tryz.f163)) (Yay Zoc Zmq (loop Ze0)) :=
 Y8c (C:=Zkt) (ctxOK mixed tbl_ok rfl ⟨Zar,trivial⟩ trivial) (SumOK.of trivial) Zoc Zmq rfl rfl Ze0 (fun x=>by kernel_rfl)
abbrev Zth:Shape:={ sl:=[(0,(.hole (.slice y5))),(1,(.fn 198 .nil .nil))],bl:=[],ts:=[(.slice y5)],pin:=0 }
abbrev Zyu:Shape:={ sl:=sl_2,bl:=[],ts:=ts_2,pin:=0 }
def Za7 (x:(List (T7))):Option (Int) :=
 (loop Ze0 (x,(((List.length x):Nat):Int),(0:Int))).bind fun r14 =>
 match r14 with
 | .inl y15 =>
 some y15
 | .inr y15 =>
 some (Int.negSucc 0)
abbrev Z146:=Spec.shp Zth Zyu Za7
def Zks:Ctx:={ tb:=mkTb T2.tbl,fx:=[(198,[],Z14f)],sum:=[(0,3,Yay Zoc Zmq (loop Ze0))],nt:=19,pin:=0,nr:=true,ys:=[] }
theorem Za8:Sound Tryz.prog 163 (Z146) :=
 Sound.shp (C:=Zks) (fn:=Tryz.f163) (by kernel_rfl) (c:=bodyOf Tryz.f163) (by kernel_rfl) (by decide) (ctxOK mixed tbl_ok rfl ⟨Zar,trivial⟩ trivial) (SumOK.of ⟨(Yb0 (d:=.loop (loopOf 3 Tryz.f163)) (by kernel_rfl) Ze1),trivial⟩) (by kernel_rfl) Zth Zyu rfl (by decide) (by decide) rfl (by decide) rfl Za7 (fun x=>by kernel_rfl)
abbrev Zt6:Shape:={ sl:=[(0,(.hole (.slice y5))),(1,(.fn 198 .nil .nil))],bl:=[],ts:=[(.slice y5)],pin:=0 }
abbrev Zyj:Shape:={ sl:=sl_1,bl:=[],ts:=ts_1,pin:=0 }
def Z9l (x:(List (T7))):Option (Bool) :=
 (Za7 x).bind fun r13 =>
 some (decide (r13 ≥ (0:Int)))
abbrev Z13v:=Spec.shp Zt6 Zyj Z9l
def Zk9:Ctx:={ tb:=mkTb T2.tbl,fx:=[(163,[198],Z146)],sum:=[],nt:=9,pin:=0,nr:=true,ys:=[] }
theorem Z9m:Sound Tryz.prog 113 (Z13v) :=
 Sound.shp (C:=Zk9) (fn:=Tryz.f113) (by kernel_rfl) (c:=bodyOf Tryz.f113) (by kernel_rfl) (by decide) (ctxOK mixed tbl_ok rfl ⟨Za8,trivial⟩ trivial) (SumOK.of trivial) (by kernel_rfl) Zt6 Zyj rfl (by decide) (by decide) rfl (by decide) rfl Z9l (fun x=>by kernel_rfl)
abbrev Zof:Shape:={ sl:=[(3,(.mp 0)),(7,(.hole (.slice y5))),(8,(.hole (.int .i64))),(9,(.hole (.int .i64)))],bl:=[.mp y4 (.int .i64)],ts:=[(.slice y5),(.int .i64),(.int .i64),(.slice y8)],pin:=0 }
abbrev Zmt:List (ETag × Shape):=[(.exit 0,{ sl:=[(3,(.mp 0))],bl:=[.mp y4 (.int .i64)],ts:=[(.slice y8)],pin:=0 })]
def Ze6 (x:(List (T7) × Int × Int × List (T8))):Option ((List (T7) × Int × Int × List (T8)) ⊕ (List (T8))) :=
 bif (decide (x.2.2.1 < x.2.1)) then
 bif (inb x.2.2.1 (List.length x.1)) then
 bif (inb (natI (@mpos (Int × Int) (Int) (Ty.beq y4) ((getAt ((0:Int),(0:Int),(0:Int)) x.1 (toN x.2.2.1)).1,(getAt ((0:Int),(0:Int),(0:Int)) x.1 (toN x.2.2.1)).2.1) x.2.2.2)) (List.length (@mput (Int × Int) (Int) (Ty.beq y4) ((getAt ((0:Int),(0:Int),(0:Int)) x.1 (toN x.2.2.1)).1,(getAt ((0:Int),(0:Int),(0:Int)) x.1 (toN x.2.2.1)).2.1) (@mlook (Int × Int) (Int) (Ty.beq y4) (Ty.zero (.int .i64)) ((getAt ((0:Int),(0:Int),(0:Int)) x.1 (toN x.2.2.1)).1,(getAt ((0:Int),(0:Int),(0:Int)) x.1 (toN x.2.2.1)).2.1) x.2.2.2) x.2.2.2))) then
 some (.inl (x.1,x.2.1,(IntKind.wrap .i64 (x.2.2.1+(1:Int))),(mset (@mput (Int × Int) (Int) (Ty.beq y4) ((getAt ((0:Int),(0:Int),(0:Int)) x.1 (toN x.2.2.1)).1,(getAt ((0:Int),(0:Int),(0:Int)) x.1 (toN x.2.2.1)).2.1) (@mlook (Int × Int) (Int) (Ty.beq y4) (Ty.zero (.int .i64)) ((getAt ((0:Int),(0:Int),(0:Int)) x.1 (toN x.2.2.1)).1,(getAt ((0:Int),(0:Int),(0:Int)) x.1 (toN x.2.2.1)).2.1) x.2.2.2) x.2.2.2) (toN (natI (@mpos (Int × Int) (Int) (Ty.beq y4) ((getAt ((0:Int),(0:Int),(0:Int)) x.1 (toN x.2.2.1)).1,(getAt ((0:Int),(0:Int),(0:Int)) x.1 (toN x.2.2.1)).2.1) x.2.2.2))) (IntKind.wrap .i64 ((@mlook (Int × Int) (Int) (Ty.beq y4) (Ty.zero (.int .i64)) ((getAt ((0:Int),(0:Int),(0:Int)) x.1 (toN x.2.2.1)).1,(getAt ((0:Int),(0:Int),(0:Int)) x.1 (toN x.2.2.1)).2.1) x.2.2.2)+(1:Int))))))
 else
 none
 else
 none
 else
 some (.inr x.2.2.2)
def Zl7:Ctx:={ tb:=mkTb T2.tbl,fx:=[],sum:=[],nt:=25,pin:=0,nr:=true,ys:=[] }
theorem Ze7:CSound Tryz.prog ⟨25,0,true⟩ (.loop (loopOf 4 Tryz.f200)) (Yay Zof Zmt (loop Ze6)) :=
 Y8c (C:=Zl7) (ctxOK mixed tbl_ok rfl trivial trivial) (SumOK.of trivial) Zof Zmt rfl rfl Ze6 (fun x=>by kernel_rfl)
abbrev Zts:Shape:={ sl:=sl_18,bl:=[],ts:=[(.slice y5)],pin:=0 }
abbrev Zz5:Shape:={ sl:=[(0,(.mp 0))],bl:=[.mp y4 (.int .i64)],ts:=[(.slice y8)],pin:=0 }
def Zav (x:(List (T7))):Option (List (T8)) :=
 (loop Ze6 (x,(((List.length x):Nat):Int),(0:Int),([]:List T8))).bind fun r14 =>
 some r14
abbrev Z14h:=Spec.shp Zts Zz5 Zav
def Zl6:Ctx:={ tb:=mkTb T2.tbl,fx:=[],sum:=[(0,4,Yay Zof Zmt (loop Ze6))],nt:=25,pin:=0,nr:=true,ys:=[] }
theorem Zaw:Sound Tryz.prog 200 (Z14h) :=
 Sound.shp (C:=Zl6) (fn:=Tryz.f200) (by kernel_rfl) (c:=bodyOf Tryz.f200) (by kernel_rfl) (by decide) (ctxOK mixed tbl_ok rfl trivial trivial) (SumOK.of ⟨(Yb0 (d:=.loop (loopOf 4 Tryz.f200)) (by kernel_rfl) Ze7),trivial⟩) (by kernel_rfl) Zts Zz5 rfl (by decide) (by decide) rfl (by decide) rfl Zav (fun x=>by kernel_rfl)
abbrev Ztp:Shape:={ sl:=sl_18,bl:=[],ts:=[(.slice y5)],pin:=0 }
abbrev Zz2:Shape:={ sl:=sl_1,bl:=[],ts:=ts_1,pin:=0 }
def Zap (x:(List (T7))):Option (Bool) :=
 (Z9l x).bind fun r12 =>
 bif r12 then
 some false
 else
 bif (decide ((((List.length x):Nat):Int) ≤ (64:Int))) then
 (Zav x).bind fun r13 =>
 some ((((List.length r13):Nat):Int) == (((List.length x):Nat):Int))
 else
 some false
abbrev Z14e:=Spec.shp Ztp Zz2 Zap
def Zl3:Ctx:={ tb:=mkTb T2.tbl,fx:=[(113,[198],Z13v),(200,[],Z14h)],sum:=[],nt:=16,pin:=0,nr:=true,ys:=[] }
theorem Zas:Sound Tryz.prog 161 (Z14e) :=
 Sound.shp (C:=Zl3) (fn:=Tryz.f161) (by kernel_rfl) (c:=bodyOf Tryz.f161) (by kernel_rfl) (by decide) (ctxOK mixed tbl_ok rfl ⟨Z9m,Zaw,trivial⟩ trivial) (SumOK.of trivial) (by kernel_rfl) Ztp Zz2 rfl (by decide) (by decide) rfl (by decide) rfl Zap (fun x=>by kernel_rfl)
abbrev Zmu:Shape:={ sl:=[(0,(.hole y0)),(1,(.hole (.int .i64))),(2,(.hole (.int .i64))),(9,(.hole y0)),(10,(.hole (.int .i64))),(11,(.hole (.int .i64)))],bl:=[],ts:=[y0,(.int .i64),(.int .i64),y0,(.int .i64),(.int .i64)],pin:=0 }
abbrev Zl8:List (ETag × Shape):=[(.ret,{ sl:=[(6,(.hole .bool))],bl:=[],ts:=ts_1,pin:=0 }),(.exit 0,{ sl:=sl_19,bl:=[],ts:=ts_3,pin:=0 })]
def Zax (x:(List Int × Int × Int × List Int × Int × Int)):Option ((List Int × Int × Int × List Int × Int × Int) ⊕ ((Bool) ⊕ T9)) :=
 bif (decide (x.2.2.2.2.2 < x.2.2.2.2.1)) then
 bif (inb x.2.2.2.2.2 (List.length x.2.2.2.1)) then
 bif ((getAt (0:Int) x.2.2.2.1 (toN x.2.2.2.2.2)) != (IntKind.wrap .i64 (x.2.1+x.2.2.2.2.2))) then
 some (.inr (.inl false))
 else
 some (.inl (x.1,x.2.1,x.2.2.1,x.2.2.2.1,x.2.2.2.2.1,(IntKind.wrap .i64 (x.2.2.2.2.2+(1:Int)))))
 else
 none
 else
 some (.inr (.inr (x.1,x.2.1,x.2.2.1)))
def Zeh:Ctx:={ tb:=mkTb T2.tbl,fx:=[],sum:=[],nt:=28,pin:=0,nr:=true,ys:=[] }
theorem Zay:CSound Tryz.prog ⟨28,0,true⟩ (.loop (loopOf 3 Tryz.f162)) (Yay Zmu Zl8 (loop Zax)) :=
 Y8c (C:=Zeh) (ctxOK mixed tbl_ok rfl trivial trivial) (SumOK.of trivial) Zmu Zl8 rfl rfl Zax (fun x=>by kernel_rfl)
abbrev Zoo:Shape:={ sl:=sl_19,bl:=[],ts:=ts_3,pin:=0 }
abbrev Zu1:Shape:={ sl:=sl_1,bl:=[],ts:=ts_1,pin:=0 }
def Zg (x:T9):Option (Bool) :=
 (loop Zax (x.1,x.2.1,x.2.2,x.1,(((List.length x.1):Nat):Int),(0:Int))).bind fun r14 =>
 match r14 with
 | .inl y15 =>
 some y15
 | .inr y15 =>
 some ((((List.length y15.1):Nat):Int) == (IntKind.wrap .i64 (y15.2.2 - y15.2.1)))
abbrev Zze:=Spec.shp Zoo Zu1 Zg
def Zeg:Ctx:={ tb:=mkTb T2.tbl,fx:=[],sum:=[(0,3,Yay Zmu Zl8 (loop Zax))],nt:=28,pin:=0,nr:=true,ys:=[] }
theorem Zh:Sound Tryz.prog 162 (Zze) :=
 Sound.shp (C:=Zeg) (fn:=Tryz.f162) (by kernel_rfl) (c:=bodyOf Tryz.f162) (by kernel_rfl) (by decide) (ctxOK mixed tbl_ok rfl trivial trivial) (SumOK.of ⟨(Yb0 (d:=.loop (loopOf 3 Tryz.f162)) (by kernel_rfl) Zay),trivial⟩) (by kernel_rfl) Zoo Zu1 rfl (by decide) (by decide) rfl (by decide) rfl Zg (fun x=>by kernel_rfl)
abbrev Zol:Shape:={ sl:=[(0,(.hole y40))],bl:=[],ts:=[y40],pin:=0 }
abbrev Zty:Shape:={ sl:=sl_1,bl:=[],ts:=ts_1,pin:=0 }
def Za (x:T43):Option (Bool) :=
 (Z83 x.2.2.1).bind fun r10 =>
 bif (r10.2 != (0:Int)) then
 some false
 else
 bif (decide (x.1 < (Int.negSucc 0))) then
 some false
 else
 bif (decide (x.1 > (3:Int))) then
 some false
 else
 bif (x.2.2.1.1 != (Max.max x.1 (0:Int))) then
 some false
 else
 (Zap x.2.2.2.2.2.1).bind fun r11 =>
 bif (Bool.not r11) then
 some false
 else
 (Zap x.2.2.2.2.2.2).bind fun r12 =>
 bif (Bool.not r12) then
 some false
 else
 bif (decide (x.2.2.2.1 < (0:Int))) then
 some false
 else
 bif (decide (x.2.2.2.1 > (1048576:Int))) then
 some false
 else
 bif (decide (x.2.2.2.2.1 < (0:Int))) then
 some false
 else
 bif (decide (x.2.2.2.2.1 > x.2.2.2.1)) then
 some false
 else
 (Zg (r10.1,x.2.2.2.2.1,x.2.2.2.1)).bind fun r13 =>
 bif (Bool.not r13) then
 some false
 else
 bif (decide (x.1 < (0:Int))) then
 bif (Bool.not x.2.1) then
 bif (x.2.2.2.1 == (0:Int)) then
 bif (Bool.not (decide ((((List.length x.2.2.2.2.2.1):Nat):Int) > (0:Int)))) then
 some (Bool.not (decide ((((List.length x.2.2.2.2.2.2):Nat):Int) > (0:Int))))
 else
 some false
 else
 some false
 else
 some false
 else
 bif x.2.1 then
 bif (Bool.not (decide ((((List.length x.2.2.2.2.2.1):Nat):Int) > (0:Int)))) then
 some (Bool.not (decide ((((List.length x.2.2.2.2.2.2):Nat):Int) > (0:Int))))
 else
 some false
 else
 bif (Bool.not (decide ((((List.length x.2.2.2.2.2.1):Nat):Int) > (0:Int)))) then
 bif (Bool.not (decide ((((List.length x.2.2.2.2.2.2):Nat):Int) > (0:Int)))) then
 some true
 else
 some ((((List.length r10.1):Nat):Int) == (0:Int))
 else
 bif ((((List.length r10.1):Nat):Int) == x.1) then
 bif (Bool.not (decide ((((List.length x.2.2.2.2.2.2):Nat):Int) > (0:Int)))) then
 some true
 else
 some ((((List.length r10.1):Nat):Int) == (0:Int))
 else
 some false
abbrev Zzb:=Spec.shp Zol Zty Za
def Zed:Ctx:={ tb:=mkTb T2.tbl,fx:=[(160,[],Z135),(161,[],Z14e),(162,[],Zze)],sum:=[],nt:=130,pin:=0,nr:=true,ys:=[] }
theorem Zb:Sound Tryz.prog 112 (Zzb) :=
 Sound.shp (C:=Zed) (fn:=Tryz.f112) (by kernel_rfl) (c:=bodyOf Tryz.f112) (by kernel_rfl) (by decide) (ctxOK mixed tbl_ok rfl ⟨Z84,Zas,Zh,trivial⟩ trivial) (SumOK.of trivial) (by kernel_rfl) Zol Zty rfl (by decide) (by decide) rfl (by decide) rfl Za (fun x=>by kernel_rfl)
abbrev Zp8:Shape:={ sl:=[(0,(.hole .bool)),(1,(.ptr 0 [])),(2,(.ptr 1 []))],bl:=[.var (.hole y45),.var (.hole (.int .i64))],ts:=[.bool,y45,(.int .i64)],pin:=0 }
abbrev Zul:Shape:={ sl:=[(0,(.fn 110 .nil (.cons (.ptr 0 []) (.cons (.ptr 1 []) (.cons (.ptr 2 []) .nil)))))],bl:=bl_8,ts:=[y45,(.int .i64),.bool],pin:=2 }
def Z1l (x:(Bool × (T47 × T61) × Int)):Option ((T47 × T61) × Int × Bool) :=
 some (x.2.1,x.2.2,x.1)
abbrev Zzy:=Spec.shp Zp8 Zul Z1l
def Zf5:Ctx:={ tb:=mkTb T2.tbl,fx:=[],sum:=[],nt:=6,pin:=2,nr:=true,ys:=[] }
theorem Z1o:Sound Tryz.prog 109 (Zzy) :=
 Sound.shp (C:=Zf5) (fn:=Tryz.f109) (by kernel_rfl) (c:=bodyOf Tryz.f109) (by kernel_rfl) (by decide) (ctxOK mixed tbl_ok rfl trivial trivial) (SumOK.of trivial) (by kernel_rfl) Zp8 Zul rfl (by decide) (by decide) rfl (by decide) rfl Z1l (fun x=>by kernel_rfl)
abbrev Zq3:Shape:={ sl:=[(0,(.hole y45)),(1,(.hole y5))],bl:=[],ts:=[y45,y5],pin:=0 }
abbrev Zvg:Shape:={ sl:=[(0,(.hole y5)),(1,(.hole .bool))],bl:=[],ts:=[y5,.bool],pin:=0 }
def Z3d (x:((T47 × T61) × T7)):Option (T7 × Bool) :=
 bif (decide (x.2.1 ≥ (((List.length x.1.2.1):Nat):Int))) then
 some (((0:Int),(0:Int),(0:Int)),false)
 else
 bif (inb x.2.1 (List.length x.1.2.1)) then
 bif ((getAt ((0:Int),(0:Int),(0:Int),false) x.1.2.1 (toN x.2.1)).2.2.1 != (1:Int)) then
 some (((0:Int),(0:Int),(0:Int)),false)
 else
 bif (inb x.2.1 (List.length x.1.2.1)) then
 bif (inb (getAt ((0:Int),(0:Int),(0:Int),false) x.1.2.1 (toN x.2.1)).1 (List.length x.1.1.2.2.2.2.2)) then
 bif (inb (getAt ((0:Int),(0:Int),(0:Int),false) x.1.2.1 (toN x.2.1)).2.1 (List.length (getAt ([]:List T7) x.1.1.2.2.2.2.2 (toN (getAt ((0:Int),(0:Int),(0:Int),false) x.1.2.1 (toN x.2.1)).1)))) then
 some ((getAt ((0:Int),(0:Int),(0:Int)) (getAt ([]:List T7) x.1.1.2.2.2.2.2 (toN (getAt ((0:Int),(0:Int),(0:Int),false) x.1.2.1 (toN x.2.1)).1)) (toN (getAt ((0:Int),(0:Int),(0:Int),false) x.1.2.1 (toN x.2.1)).2.1)),true)
 else
 none
 else
 none
 else
 none
 else
 none
abbrev Z10t:=Spec.shp Zq3 Zvg Z3d
def Zg6:Ctx:={ tb:=mkTb T2.tbl,fx:=[],sum:=[],nt:=41,pin:=0,nr:=true,ys:=[] }
theorem Z3e:Sound Tryz.prog 116 (Z10t) :=
 Sound.shp (C:=Zg6) (fn:=Tryz.f116) (by kernel_rfl) (c:=bodyOf Tryz.f116) (by kernel_rfl) (by decide) (ctxOK mixed tbl_ok rfl trivial trivial) (SumOK.of trivial) (by kernel_rfl) Zq3 Zvg rfl (by decide) (by decide) rfl (by decide) rfl Z3d (fun x=>by kernel_rfl)
abbrev Zp3:Shape:={ sl:=[(0,(.hole y45)),(1,(.hole y5)),(2,(.hole (.int .i64))),(3,(.hole .bool))],bl:=[],ts:=[y45,y5,(.int .i64),.bool],pin:=0 }
abbrev Zug:Shape:={ sl:=sl_1,bl:=[],ts:=ts_1,pin:=0 }
def Z1c (x:((T47 × T61) × T7 × Int × Bool)):Option (Bool) :=
 (Z3d (x.1,x.2.1)).bind fun r16 =>
 bif (Bool.not r16.2) then
 some false
 else
 bif (r16.1.1 == (4:Int)) then
 bif (inb r16.1.2.1 (List.length x.1.1.2.2.2.2.1)) then
 bif (decide (x.2.1.2.1 < (((List.length (getAt (([]:List T0),false) x.1.1.2.2.2.2.1 (toN r16.1.2.1)).1):Nat):Int))) then
 bif (inb x.2.1.2.1 (List.length (getAt (([]:List T0),false) x.1.1.2.2.2.2.1 (toN r16.1.2.1)).1)) then
 some (((getAt (false,(0:Int)) (getAt (([]:List T0),false) x.1.1.2.2.2.2.1 (toN r16.1.2.1)).1 (toN x.2.1.2.1)).1 == (x.2.2.2,x.2.2.1).1) && ((getAt (false,(0:Int)) (getAt (([]:List T0),false) x.1.1.2.2.2.2.1 (toN r16.1.2.1)).1 (toN x.2.1.2.1)).2 == (x.2.2.2,x.2.2.1).2))
 else
 none
 else
 some false
 else
 none
 else
 bif x.2.2.2 then
 some ((r16.1.1 == ((1:Int),x.2.2.1,(0:Int)).1) && ((r16.1.2.1 == ((1:Int),x.2.2.1,(0:Int)).2.1) && (r16.1.2.2 == ((1:Int),x.2.2.1,(0:Int)).2.2)))
 else
 some ((r16.1.1 == ((2:Int),x.2.2.1,(0:Int)).1) && ((r16.1.2.1 == ((2:Int),x.2.2.1,(0:Int)).2.1) && (r16.1.2.2 == ((2:Int),x.2.2.1,(0:Int)).2.2)))
abbrev Zzt:=Spec.shp Zp3 Zug Z1c
def Zey:Ctx:={ tb:=mkTb T2.tbl,fx:=[(116,[],Z10t)],sum:=[],nt:=59,pin:=0,nr:=true,ys:=[] }
theorem Z1d:Sound Tryz.prog 111 (Zzt) :=
 Sound.shp (C:=Zey) (fn:=Tryz.f111) (by kernel_rfl) (c:=bodyOf Tryz.f111) (by kernel_rfl) (by decide) (ctxOK mixed tbl_ok rfl ⟨Z3e,trivial⟩ trivial) (SumOK.of trivial) (by kernel_rfl) Zp3 Zug rfl (by decide) (by decide) rfl (by decide) rfl Z1c (fun x=>by kernel_rfl)
abbrev Zp9:Shape:={ sl:=sl_20,bl:=bl_8,ts:=[y5,y45,(.int .i64),.bool],pin:=0 }
abbrev Zum:Shape:={ sl:=sl_1,bl:=bl_8,ts:=[.bool,y45,(.int .i64),.bool],pin:=3 }
def Z1m (x:(T7 × (T47 × T61) × Int × Bool)):Option (Bool × (T47 × T61) × Int × Bool) :=
 (Z1c (x.2.1,x.1,x.2.2.1,x.2.2.2)).bind fun r15 =>
 some ((Bool.not r15),x.2.1,x.2.2.1,x.2.2.2)
abbrev Zzz:=Spec.shp Zp9 Zum Z1m
def Zf7:Ctx:={ tb:=mkTb T2.tbl,fx:=[(111,[],Zzt)],sum:=[],nt:=12,pin:=3,nr:=true,ys:=[] }
theorem Z1n:Sound Tryz.prog 110 (Zzz) :=
 Sound.shp (C:=Zf7) (fn:=Tryz.f110) (by kernel_rfl) (c:=bodyOf Tryz.f110) (by kernel_rfl) (by decide) (ctxOK mixed tbl_ok rfl ⟨Z1d,trivial⟩ trivial) (SumOK.of trivial) (by kernel_rfl) Zp9 Zum rfl (by decide) (by decide) rfl (by decide) rfl Z1m (fun x=>by kernel_rfl)
abbrev Zo8:Shape:={ sl:=[(0,(.hole (.slice y5))),(1,(.fn 110 .nil (.cons (.ptr 0 []) (.cons (.ptr 1 []) (.cons (.ptr 2 []) .nil))))),(7,(.hole (.int .i64))),(8,(.hole (.int .i64)))],bl:=bl_8,ts:=[(.slice y5),(.int .i64),(.int .i64),y45,(.int .i64),.bool],pin:=3 }
abbrev Zmm:List (ETag × Shape):=[(.ret,{ sl:=sl_3,bl:=bl_8,ts:=[(.int .i64),y45,(.int .i64),.bool],pin:=3 }),(.exit 0,{ sl:=[],bl:=bl_8,ts:=[y45,(.int .i64),.bool],pin:=3 })]
def Zds (x:(List (T7) × Int × Int × (T47 × T61) × Int × Bool)):Option ((List (T7) × Int × Int × (T47 × T61) × Int × Bool) ⊕ ((Int × (T47 × T61) × Int × Bool) ⊕ ((T47 × T61) × Int × Bool))) :=
 bif (decide (x.2.2.1 < x.2.1)) then
 bif (inb x.2.2.1 (List.length x.1)) then
 (Z1m ((getAt ((0:Int),(0:Int),(0:Int)) x.1 (toN x.2.2.1)),x.2.2.2.1,x.2.2.2.2.1,x.2.2.2.2.2)).bind fun r14 =>
 bif r14.1 then
 some (.inr (.inl (x.2.2.1,r14.2.1,r14.2.2.1,r14.2.2.2)))
 else
 some (.inl (x.1,x.2.1,(IntKind.wrap .i64 (x.2.2.1+(1:Int))),r14.2.1,r14.2.2.1,r14.2.2.2))
 else
 none
 else
 some (.inr (.inr (x.2.2.2.1,x.2.2.2.2.1,x.2.2.2.2.2)))
def Zkl:Ctx:={ tb:=mkTb T2.tbl,fx:=[(110,[],Zzz)],sum:=[],nt:=19,pin:=3,nr:=true,ys:=[] }
theorem Zdt:CSound Tryz.prog ⟨19,3,true⟩ (.loop (loopOf 3 Tryz.f163)) (Yay Zo8 Zmm (loop Zds)) :=
 Y8c (C:=Zkl) (ctxOK mixed tbl_ok rfl ⟨Z1n,trivial⟩ trivial) (SumOK.of trivial) Zo8 Zmm rfl rfl Zds (fun x=>by kernel_rfl)
abbrev Ztd:Shape:={ sl:=sl_21,bl:=bl_8,ts:=[(.slice y5),y45,(.int .i64),.bool],pin:=0 }
abbrev Zyq:Shape:={ sl:=sl_2,bl:=bl_8,ts:=[(.int .i64),y45,(.int .i64),.bool],pin:=3 }
def Z9z (x:(List (T7) × (T47 × T61) × Int × Bool)):Option (Int × (T47 × T61) × Int × Bool) :=
 (loop Zds (x.1,(((List.length x.1):Nat):Int),(0:Int),x.2.1,x.2.2.1,x.2.2.2)).bind fun r13 =>
 match r13 with
 | .inl y14 =>
 some (y14.1,y14.2.1,y14.2.2.1,y14.2.2.2)
 | .inr y14 =>
 some ((Int.negSucc 0),y14.1,y14.2.1,y14.2.2)
abbrev Z142:=Spec.shp Ztd Zyq Z9z
def Zkk:Ctx:={ tb:=mkTb T2.tbl,fx:=[(110,[],Zzz)],sum:=[(0,3,Yay Zo8 Zmm (loop Zds))],nt:=19,pin:=3,nr:=true,ys:=[] }
theorem Za0:Sound Tryz.prog 163 (Z142) :=
 Sound.shp (C:=Zkk) (fn:=Tryz.f163) (by kernel_rfl) (c:=bodyOf Tryz.f163) (by kernel_rfl) (by decide) (ctxOK mixed tbl_ok rfl ⟨Z1n,trivial⟩ trivial) (SumOK.of ⟨(Yb0 (d:=.loop (loopOf 3 Tryz.f163)) (by kernel_rfl) Zdt),trivial⟩) (by kernel_rfl) Ztd Zyq rfl (by decide) (by decide) rfl (by decide) rfl Z9z (fun x=>by kernel_rfl)
abbrev Zt4:Shape:={ sl:=sl_21,bl:=bl_8,ts:=[(.slice y5),y45,(.int .i64),.bool],pin:=0 }
abbrev Zyh:Shape:={ sl:=sl_1,bl:=bl_8,ts:=[.bool,y45,(.int .i64),.bool],pin:=3 }
def Z9h (x:(List (T7) × (T47 × T61) × Int × Bool)):Option (Bool × (T47 × T61) × Int × Bool) :=
 (Z9z (x.1,x.2.1,x.2.2.1,x.2.2.2)).bind fun r12 =>
 some ((decide (r12.1 ≥ (0:Int))),r12.2.1,r12.2.2.1,r12.2.2.2)
abbrev Z13t:=Spec.shp Zt4 Zyh Z9h
def Zk7:Ctx:={ tb:=mkTb T2.tbl,fx:=[(163,[110],Z142)],sum:=[],nt:=9,pin:=3,nr:=true,ys:=[] }
theorem Z9i:Sound Tryz.prog 113 (Z13t) :=
 Sound.shp (C:=Zk7) (fn:=Tryz.f113) (by kernel_rfl) (c:=bodyOf Tryz.f113) (by kernel_rfl) (by decide) (ctxOK mixed tbl_ok rfl ⟨Za0,trivial⟩ trivial) (SumOK.of trivial) (by kernel_rfl) Zt4 Zyh rfl (by decide) (by decide) rfl (by decide) rfl Z9h (fun x=>by kernel_rfl)
abbrev Zn0:Shape:={ sl:=[(1,(.ptr 0 [])),(3,(.ptr 1 [])),(64,(.hole y41)),(65,(.hole (.int .i64))),(66,(.hole (.int .i64)))],bl:=[.var (.hole y45),.var (.hole y39)],ts:=[y41,(.int .i64),(.int .i64),y45,y39],pin:=0 }
abbrev Zle:List (ETag × Shape):=[(.ret,{ sl:=[(2,(.hole .bool))],bl:=[],ts:=ts_1,pin:=0 }),(.exit 0,{ sl:=[(1,(.ptr 0 []))],bl:=bl_9,ts:=[y45],pin:=0 })]
def Zb9 (x:(List T43 × Int × Int × (T47 × T61) × T47)):Option ((List T43 × Int × Int × (T47 × T61) × T47) ⊕ ((Bool) ⊕ T62)) :=
 bif (decide (x.2.2.1 < x.2.1)) then
 bif (inb x.2.2.1 (List.length x.1)) then
 (Za (getAt ((0:Int),false,((0:Int),(0:Int),([]:List Int),(0:Int)),(0:Int),(0:Int),([]:List T7),([]:List T7)) x.1 (toN x.2.2.1))).bind fun r9 =>
 bif (Bool.not r9) then
 some (.inr (.inl false))
 else
 bif (inb x.2.2.1 (List.length x.2.2.2.2.1)) then
 bif ((getAt ((0:Int),false,((0:Int),(0:Int),([]:List Int),(0:Int)),(0:Int),(0:Int),([]:List T7),([]:List T7)) x.1 (toN x.2.2.1)).1 != (getAt (0:Int) x.2.2.2.2.1 (toN x.2.2.1))) then
 some (.inr (.inl false))
 else
 (Z1l (true,x.2.2.2.1,x.2.2.1)).bind fun r10 =>
 (Z9h ((getAt ((0:Int),false,((0:Int),(0:Int),([]:List Int),(0:Int)),(0:Int),(0:Int),([]:List T7),([]:List T7)) x.1 (toN x.2.2.1)).2.2.2.2.2.1,r10.1,r10.2.1,r10.2.2)).bind fun r11 =>
 bif r11.1 then
 some (.inr (.inl false))
 else
 (Z1l (false,r11.2.1,r11.2.2.1)).bind fun r12 =>
 (Z9h ((getAt ((0:Int),false,((0:Int),(0:Int),([]:List Int),(0:Int)),(0:Int),(0:Int),([]:List T7),([]:List T7)) x.1 (toN x.2.2.1)).2.2.2.2.2.2,r12.1,r12.2.1,r12.2.2)).bind fun r13 =>
 bif r13.1 then
 some (.inr (.inl false))
 else
 some (.inl (x.1,x.2.1,(IntKind.wrap .i64 (x.2.2.1+(1:Int))),r13.2.1,x.2.2.2.2))
 else
 none
 else
 none
 else
 some (.inr (.inr x.2.2.2.1))
def Zfa:Ctx:={ tb:=mkTb T2.tbl,fx:=[(38,[],Z12p),(95,[107],Z13r),(112,[],Zzb),(109,[],Zzy),(113,[110],Z13t)],sum:=[],nt:=141,pin:=0,nr:=true,ys:=[] }
theorem Zba:CSound Tryz.prog ⟨141,0,true⟩ (.loop (loopOf 8 Tryz.f57)) (Yay Zn0 Zle (loop Zb9)) :=
 Y8c (C:=Zfa) (ctxOK mixed tbl_ok rfl ⟨Z78,Z9e,Zb,Z1o,Z9i,trivial⟩ trivial) (SumOK.of trivial) Zn0 Zle rfl rfl Zb9 (fun x=>by kernel_rfl)
abbrev Zox:Shape:={ sl:=[(0,(.hole y15))],bl:=[],ts:=[y15],pin:=0 }
abbrev Zua:Shape:={ sl:=sl_1,bl:=[],ts:=ts_1,pin:=0 }
def Z10 (x:(T18)):Option (Bool) :=
 (Zap x.2).bind fun r12 =>
 bif r12 then
 bif x.1 then
 some true
 else
 some ((((List.length x.2):Nat):Int) == (0:Int))
 else
 some false
abbrev Zzn:=Spec.shp Zox Zua Z10
def Zeq:Ctx:={ tb:=mkTb T2.tbl,fx:=[(161,[],Z14e)],sum:=[],nt:=16,pin:=0,nr:=true,ys:=[] }
theorem Z11:Sound Tryz.prog 117 (Zzn) :=
 Sound.shp (C:=Zeq) (fn:=Tryz.f117) (by kernel_rfl) (c:=bodyOf Tryz.f117) (by kernel_rfl) (by decide) (ctxOK mixed tbl_ok rfl ⟨Zas,trivial⟩ trivial) (SumOK.of trivial) (by kernel_rfl) Zox Zua rfl (by decide) (by decide) rfl (by decide) rfl Z10 (fun x=>by kernel_rfl)
abbrev Zpa:Shape:={ sl:=[(0,(.hole (.int .i64))),(1,(.hole (.int .i64))),(2,(.ptr 0 []))],bl:=bl_9,ts:=[(.int .i64),(.int .i64),y45],pin:=0 }
abbrev Zun:Shape:={ sl:=[(0,(.fn 115 .nil (.cons (.ptr 0 []) (.cons (.ptr 1 []) (.cons (.ptr 2 []) .nil)))))],bl:=bl_10,ts:=[y45,(.int .i64),(.int .i64)],pin:=1 }
def Z1p (x:(Int × Int × (T47 × T61))):Option ((T47 × T61) × Int × Int) :=
 some (x.2.2,x.1,x.2.1)
abbrev Z100:=Spec.shp Zpa Zun Z1p
def Zf8:Ctx:={ tb:=mkTb T2.tbl,fx:=[],sum:=[],nt:=7,pin:=1,nr:=true,ys:=[] }
theorem Z1s:Sound Tryz.prog 114 (Z100) :=
 Sound.shp (C:=Zf8) (fn:=Tryz.f114) (by kernel_rfl) (c:=bodyOf Tryz.f114) (by kernel_rfl) (by decide) (ctxOK mixed tbl_ok rfl trivial trivial) (SumOK.of trivial) (by kernel_rfl) Zpa Zun rfl (by decide) (by decide) rfl (by decide) rfl Z1p (fun x=>by kernel_rfl)
abbrev Zpb:Shape:={ sl:=sl_20,bl:=bl_10,ts:=[y5,y45,(.int .i64),(.int .i64)],pin:=0 }
abbrev Zuo:Shape:={ sl:=sl_1,bl:=bl_10,ts:=[.bool,y45,(.int .i64),(.int .i64)],pin:=3 }
def Z1q (x:(T7 × (T47 × T61) × Int × Int)):Option (Bool × (T47 × T61) × Int × Int) :=
 (Z3d (x.2.1,x.1)).bind fun r17 =>
 bif (Bool.not r17.2) then
 some (true,x.2.1,x.2.2.1,x.2.2.2)
 else
 bif (r17.1.1 != x.2.2.1) then
 some (true,x.2.1,x.2.2.1,x.2.2.2)
 else
 some ((r17.1.2.1 != x.2.2.2),x.2.1,x.2.2.1,x.2.2.2)
abbrev Z101:=Spec.shp Zpb Zuo Z1q
def Zf9:Ctx:={ tb:=mkTb T2.tbl,fx:=[(116,[],Z10t)],sum:=[],nt:=28,pin:=3,nr:=true,ys:=[] }
theorem Z1r:Sound Tryz.prog 115 (Z101) :=
 Sound.shp (C:=Zf9) (fn:=Tryz.f115) (by kernel_rfl) (c:=bodyOf Tryz.f115) (by kernel_rfl) (by decide) (ctxOK mixed tbl_ok rfl ⟨Z3e,trivial⟩ trivial) (SumOK.of trivial) (by kernel_rfl) Zpb Zuo rfl (by decide) (by decide) rfl (by decide) rfl Z1q (fun x=>by kernel_rfl)
abbrev Zo9:Shape:={ sl:=[(0,(.hole (.slice y5))),(1,(.fn 115 .nil (.cons (.ptr 0 []) (.cons (.ptr 1 []) (.cons (.ptr 2 []) .nil))))),(7,(.hole (.int .i64))),(8,(.hole (.int .i64)))],bl:=bl_10,ts:=[(.slice y5),(.int .i64),(.int .i64),y45,(.int .i64),(.int .i64)],pin:=3 }
abbrev Zmn:List (ETag × Shape):=[(.ret,{ sl:=sl_3,bl:=bl_10,ts:=[(.int .i64),y45,(.int .i64),(.int .i64)],pin:=3 }),(.exit 0,{ sl:=[],bl:=bl_10,ts:=[y45,(.int .i64),(.int .i64)],pin:=3 })]
def Zdu (x:(List (T7) × Int × Int × (T47 × T61) × Int × Int)):Option ((List (T7) × Int × Int × (T47 × T61) × Int × Int) ⊕ ((Int × (T47 × T61) × Int × Int) ⊕ ((T47 × T61) × Int × Int))) :=
 bif (decide (x.2.2.1 < x.2.1)) then
 bif (inb x.2.2.1 (List.length x.1)) then
 (Z1q ((getAt ((0:Int),(0:Int),(0:Int)) x.1 (toN x.2.2.1)),x.2.2.2.1,x.2.2.2.2.1,x.2.2.2.2.2)).bind fun r16 =>
 bif r16.1 then
 some (.inr (.inl (x.2.2.1,r16.2.1,r16.2.2.1,r16.2.2.2)))
 else
 some (.inl (x.1,x.2.1,(IntKind.wrap .i64 (x.2.2.1+(1:Int))),r16.2.1,r16.2.2.1,r16.2.2.2))
 else
 none
 else
 some (.inr (.inr (x.2.2.2.1,x.2.2.2.2.1,x.2.2.2.2.2)))
def Zkn:Ctx:={ tb:=mkTb T2.tbl,fx:=[(115,[],Z101)],sum:=[],nt:=19,pin:=3,nr:=true,ys:=[] }
theorem Zdv:CSound Tryz.prog ⟨19,3,true⟩ (.loop (loopOf 3 Tryz.f163)) (Yay Zo9 Zmn (loop Zdu)) :=
 Y8c (C:=Zkn) (ctxOK mixed tbl_ok rfl ⟨Z1r,trivial⟩ trivial) (SumOK.of trivial) Zo9 Zmn rfl rfl Zdu (fun x=>by kernel_rfl)
abbrev Zte:Shape:={ sl:=sl_22,bl:=bl_10,ts:=[(.slice y5),y45,(.int .i64),(.int .i64)],pin:=0 }
abbrev Zyr:Shape:={ sl:=sl_2,bl:=bl_10,ts:=[(.int .i64),y45,(.int .i64),(.int .i64)],pin:=3 }
def Za1 (x:(List (T7) × (T47 × T61) × Int × Int)):Option (Int × (T47 × T61) × Int × Int) :=
 (loop Zdu (x.1,(((List.length x.1):Nat):Int),(0:Int),x.2.1,x.2.2.1,x.2.2.2)).bind fun r15 =>
 match r15 with
 | .inl y16 =>
 some (y16.1,y16.2.1,y16.2.2.1,y16.2.2.2)
 | .inr y16 =>
 some ((Int.negSucc 0),y16.1,y16.2.1,y16.2.2)
abbrev Z143:=Spec.shp Zte Zyr Za1
def Zkm:Ctx:={ tb:=mkTb T2.tbl,fx:=[(115,[],Z101)],sum:=[(0,3,Yay Zo9 Zmn (loop Zdu))],nt:=19,pin:=3,nr:=true,ys:=[] }
theorem Za2:Sound Tryz.prog 163 (Z143) :=
 Sound.shp (C:=Zkm) (fn:=Tryz.f163) (by kernel_rfl) (c:=bodyOf Tryz.f163) (by kernel_rfl) (by decide) (ctxOK mixed tbl_ok rfl ⟨Z1r,trivial⟩ trivial) (SumOK.of ⟨(Yb0 (d:=.loop (loopOf 3 Tryz.f163)) (by kernel_rfl) Zdv),trivial⟩) (by kernel_rfl) Zte Zyr rfl (by decide) (by decide) rfl (by decide) rfl Za1 (fun x=>by kernel_rfl)
abbrev Zt5:Shape:={ sl:=sl_22,bl:=bl_10,ts:=[(.slice y5),y45,(.int .i64),(.int .i64)],pin:=0 }
abbrev Zyi:Shape:={ sl:=sl_1,bl:=bl_10,ts:=[.bool,y45,(.int .i64),(.int .i64)],pin:=3 }
def Z9j (x:(List (T7) × (T47 × T61) × Int × Int)):Option (Bool × (T47 × T61) × Int × Int) :=
 (Za1 (x.1,x.2.1,x.2.2.1,x.2.2.2)).bind fun r14 =>
 some ((decide (r14.1 ≥ (0:Int))),r14.2.1,r14.2.2.1,r14.2.2.2)
abbrev Z13u:=Spec.shp Zt5 Zyi Z9j
def Zk8:Ctx:={ tb:=mkTb T2.tbl,fx:=[(163,[115],Z143)],sum:=[],nt:=9,pin:=3,nr:=true,ys:=[] }
theorem Z9k:Sound Tryz.prog 113 (Z13u) :=
 Sound.shp (C:=Zk8) (fn:=Tryz.f113) (by kernel_rfl) (c:=bodyOf Tryz.f113) (by kernel_rfl) (by decide) (ctxOK mixed tbl_ok rfl ⟨Za2,trivial⟩ trivial) (SumOK.of trivial) (by kernel_rfl) Zt5 Zyi rfl (by decide) (by decide) rfl (by decide) rfl Z9j (fun x=>by kernel_rfl)
abbrev Zmy:Shape:={ sl:=[(1,(.ptr 0 [])),(7,(.fn 114 .nil (.cons (.ptr 0 []) .nil))),(102,(.hole y19)),(103,(.hole (.int .i64))),(104,(.hole (.int .i64)))],bl:=bl_9,ts:=[y19,(.int .i64),(.int .i64),y45],pin:=0 }
abbrev Zlc:List (ETag × Shape):=[(.ret,{ sl:=[(2,(.hole .bool))],bl:=[],ts:=ts_1,pin:=0 }),(.exit 2,{ sl:=[(1,(.ptr 0 [])),(7,(.fn 114 .nil (.cons (.ptr 0 []) .nil)))],bl:=bl_9,ts:=[y45],pin:=0 })]
def Zb5 (x:(List (T18) × Int × Int × (T47 × T61))):Option ((List (T18) × Int × Int × (T47 × T61)) ⊕ ((Bool) ⊕ T62)) :=
 bif (decide (x.2.2.1 < x.2.1)) then
 bif (inb x.2.2.1 (List.length x.1)) then
 (Z10 (getAt (false,([]:List T7)) x.1 (toN x.2.2.1))).bind fun r11 =>
 bif (Bool.not r11) then
 some (.inr (.inl false))
 else
 (Z1p ((5:Int),x.2.2.1,x.2.2.2)).bind fun r12 =>
 (Z9j ((getAt (false,([]:List T7)) x.1 (toN x.2.2.1)).2,r12.1,r12.2.1,r12.2.2)).bind fun r13 =>
 bif r13.1 then
 some (.inr (.inl false))
 else
 some (.inl (x.1,x.2.1,(IntKind.wrap .i64 (x.2.2.1+(1:Int))),r13.2.1))
 else
 none
 else
 some (.inr (.inr x.2.2.2))
def Zf4:Ctx:={ tb:=mkTb T2.tbl,fx:=[(38,[],Z12p),(95,[107],Z13r),(112,[],Zzb),(109,[],Zzy),(113,[110],Z13t),(117,[],Zzn),(114,[],Z100),(113,[115],Z13u)],sum:=[(0,8,Yay Zn0 Zle (loop Zb9))],nt:=141,pin:=0,nr:=true,ys:=[] }
theorem Zb6:CSound Tryz.prog ⟨141,0,true⟩ (.loop (loopOf 16 Tryz.f57)) (Yay Zmy Zlc (loop Zb5)) :=
 Y8c (C:=Zf4) (ctxOK mixed tbl_ok rfl ⟨Z78,Z9e,Zb,Z1o,Z9i,Z11,Z1s,Z9k,trivial⟩ trivial) (SumOK.of ⟨(Yaz (by kernel_rfl)),trivial⟩) Zmy Zlc rfl rfl Zb5 (fun x=>by kernel_rfl)
abbrev Zsz:Shape:={ sl:=sl_18,bl:=[],ts:=[(.slice y5)],pin:=0 }
abbrev Zyc:Shape:={ sl:=[(0,(.sl 0))],bl:=[.row y5],ts:=[(.slice y5)],pin:=0 }
def Z97 (x:(List (T7))):Option (List (T7)) :=
 bif (@Nat.beq (List.length x) (0:Nat)) then
 amb (
 some ([]:List T7)) (
 bif (fits ((List.length ([]:List T7))+(List.length x))) then
 some (([]:List T7)++x)
 else
 none)
 else
 bif (fits ((List.length ([]:List T7))+(List.length x))) then
 some (([]:List T7)++x)
 else
 none
abbrev Z13o:=Spec.shp Zsz Zyc Z97
def Zk2:Ctx:={ tb:=mkTb T2.tbl,fx:=[],sum:=[],nt:=8,pin:=0,nr:=true,ys:=[] }
theorem Z98:Sound Tryz.prog 202 (Z13o) :=
 Sound.shp (C:=Zk2) (fn:=Tryz.f202) (by kernel_rfl) (c:=bodyOf Tryz.f202) (by kernel_rfl) (by decide) (ctxOK mixed tbl_ok rfl trivial trivial) (SumOK.of trivial) (by kernel_rfl) Zsz Zyc rfl (by decide) (by decide) rfl (by decide) rfl Z97 (fun x=>by kernel_rfl)
abbrev Ztl:Shape:={ sl:=[(0,(.hole y5)),(1,(.ptr 0 []))],bl:=bl_3,ts:=[y5,(.int .i64)],pin:=0 }
abbrev Zyy:Shape:={ sl:=sl_1,bl:=bl_3,ts:=[.bool,(.int .i64)],pin:=1 }
def Zae (x:(T7 × Int)):Option T0 :=
 some ((x.1.1 == x.2),x.2)
abbrev Z14a:=Spec.shp Ztl Zyy Zae
def Zkz:Ctx:={ tb:=mkTb T2.tbl,fx:=[],sum:=[],nt:=8,pin:=1,nr:=true,ys:=[] }
theorem Zaf:Sound Tryz.prog 203 (Z14a) :=
 Sound.shp (C:=Zkz) (fn:=Tryz.f203) (by kernel_rfl) (c:=bodyOf Tryz.f203) (by kernel_rfl) (by decide) (ctxOK mixed tbl_ok rfl trivial trivial) (SumOK.of trivial) (by kernel_rfl) Ztl Zyy rfl (by decide) (by decide) rfl (by decide) rfl Zae (fun x=>by kernel_rfl)
theorem Zag:Sound Tryz.prog 203 (Spec.shpR Ztl Zyy Zae) :=
 Sound.shpR (fun x y h=>by have h:=Option.some.inj h; subst h; rfl) Zaf
abbrev Zoa:Shape:={ sl:=[(0,(.sl 0)),(1,(.fn 203 .nil (.cons (.ptr 1 []) .nil))),(7,(.hole (.int .i64))),(8,(.hole (.int .i64)))],bl:=bl_11,ts:=[(.int .i64),(.int .i64),(.slice y5),(.int .i64)],pin:=2 }
abbrev Zmo:List (ETag × Shape):=[(.ret,{ sl:=sl_3,bl:=bl_11,ts:=[(.int .i64),(.slice y5),(.int .i64)],pin:=2 }),(.exit 0,{ sl:=[],bl:=bl_11,ts:=ts_12,pin:=2 })]
def Zdw (x:(Int × Int × List (T7) × Int)):Option ((Int × Int × List (T7) × Int) ⊕ ((Int × List (T7) × Int) ⊕ T15)) :=
 bif (decide (x.2.1 < x.1)) then
 bif (inb x.2.1 (List.length x.2.2.1)) then
 (Zae ((getAt ((0:Int),(0:Int),(0:Int)) x.2.2.1 (toN x.2.1)),x.2.2.2)).bind fun r21 =>
 bif r21.1 then
 some (.inr (.inl (x.2.1,x.2.2.1,x.2.2.2)))
 else
 some (.inl (x.1,(IntKind.wrap .i64 (x.2.1+(1:Int))),x.2.2.1,x.2.2.2))
 else
 none
 else
 some (.inr (.inr (x.2.2.1,x.2.2.2)))
def Zkp:Ctx:={ tb:=mkTb T2.tbl,fx:=[(203,[],Spec.shpR Ztl Zyy Zae)],sum:=[],nt:=19,pin:=2,nr:=true,ys:=[] }
theorem Zdx:CSound Tryz.prog ⟨19,2,true⟩ (.loop (loopOf 3 Tryz.f163)) (Yay Zoa Zmo (loop Zdw)) :=
 Y8c (C:=Zkp) (ctxOK mixed tbl_ok rfl ⟨Zag,trivial⟩ trivial) (SumOK.of trivial) Zoa Zmo rfl rfl Zdw (fun x=>by kernel_rfl)
abbrev Ztf:Shape:={ sl:=[(0,(.sl 0)),(1,(.fn 203 .nil (.cons (.ptr 1 []) .nil)))],bl:=bl_11,ts:=ts_12,pin:=0 }
abbrev Zys:Shape:={ sl:=sl_2,bl:=bl_11,ts:=[(.int .i64),(.slice y5),(.int .i64)],pin:=2 }
def Za3 (x:T15):Option (Int × List (T7) × Int) :=
 (loop Zdw ((((List.length x.1):Nat):Int),(0:Int),x.1,x.2)).bind fun r20 =>
 match r20 with
 | .inl y21 =>
 some (y21.1,y21.2.1,y21.2.2)
 | .inr y21 =>
 some ((Int.negSucc 0),y21.1,y21.2)
abbrev Z144:=Spec.shp Ztf Zys Za3
def Zko:Ctx:={ tb:=mkTb T2.tbl,fx:=[(203,[],Spec.shpR Ztl Zyy Zae)],sum:=[(0,3,Yay Zoa Zmo (loop Zdw))],nt:=19,pin:=2,nr:=true,ys:=[] }
theorem Za4:Sound Tryz.prog 163 (Z144) :=
 Sound.shp (C:=Zko) (fn:=Tryz.f163) (by kernel_rfl) (c:=bodyOf Tryz.f163) (by kernel_rfl) (by decide) (ctxOK mixed tbl_ok rfl ⟨Zag,trivial⟩ trivial) (SumOK.of ⟨(Yb0 (d:=.loop (loopOf 3 Tryz.f163)) (by kernel_rfl) Zdx),trivial⟩) (by kernel_rfl) Ztf Zys rfl (by decide) (by decide) rfl (by decide) rfl Za3 (fun x=>by kernel_rfl)
abbrev Zo4:Shape:={ sl:=[(0,(.sl 1)),(1,(.fn 203 .nil (.cons (.ptr 0 []) .nil))),(5,(.hole (.int .i64))),(6,(.hole (.int .i64)))],bl:=[.var (.hole (.int .i64)),.row y5],ts:=[(.int .i64),(.int .i64),(.int .i64),(.slice y5)],pin:=1 }
abbrev Zmi:List (ETag × Shape):=[(.exit 0,{ sl:=[(0,(.sl 1)),(5,(.hole (.int .i64)))],bl:=[.var (.hole (.int .i64)),.row y5],ts:=[(.int .i64),(.int .i64),(.slice y5)],pin:=1 })]
def Zdk (x:(Int × Int × Int × List (T7))):Option ((Int × Int × Int × List (T7)) ⊕ (Int × Int × List (T7))) :=
 bif (decide (x.2.1 < (((List.length x.2.2.2):Nat):Int))) then
 bif (inb x.2.1 (List.length x.2.2.2)) then
 (Zae ((getAt ((0:Int),(0:Int),(0:Int)) x.2.2.2 (toN x.2.1)),x.2.2.1)).bind fun r21 =>
 bif (Bool.not r21.1) then
 bif (inb x.1 (List.length x.2.2.2)) then
 some (.inl ((IntKind.wrap .i64 (x.1+(1:Int))),(IntKind.wrap .i64 (x.2.1+(1:Int))),x.2.2.1,(List.set x.2.2.2 (toN x.1) (getAt ((0:Int),(0:Int),(0:Int)) x.2.2.2 (toN x.2.1)))))
 else
 none
 else
 some (.inl (x.1,(IntKind.wrap .i64 (x.2.1+(1:Int))),x.2.2.1,x.2.2.2))
 else
 none
 else
 some (.inr (x.1,x.2.2.1,x.2.2.2))
def Zkd:Ctx:={ tb:=mkTb T2.tbl,fx:=[(163,[2000000,203],Z144),(203,[],Spec.shpR Ztl Zyy Zae)],sum:=[],nt:=42,pin:=1,nr:=true,ys:=[] }
theorem Zdl:CSound Tryz.prog ⟨42,1,true⟩ (.loop (loopOf 6 Tryz.f201)) (Yay Zo4 Zmi (loop Zdk)) :=
 Y8c (C:=Zkd) (ctxOK mixed tbl_ok rfl ⟨Za4,Zag,trivial⟩ trivial) (SumOK.of trivial) Zo4 Zmi rfl rfl Zdk (fun x=>by kernel_rfl)
abbrev Zt9:Shape:={ sl:=[(0,(.sl 1)),(1,(.fn 203 .nil (.cons (.ptr 0 []) .nil)))],bl:=[.var (.hole (.int .i64)),.row y5],ts:=[(.int .i64),(.slice y5)],pin:=0 }
abbrev Zym:Shape:={ sl:=sl_18,bl:=bl_3,ts:=ts_12,pin:=1 }
def Z9r (x:T13):Option T15 :=
 (Za3 (x.2,x.1)).bind fun r19 =>
 bif (r19.1 == (Int.negSucc 0)) then
 some (r19.2.1,r19.2.2)
 else
 (loop Zdk (r19.1,(IntKind.wrap .i64 (r19.1+(1:Int))),r19.2.2,r19.2.1)).bind fun r20 =>
 bif (sub3 r20.1 (((List.length r20.2.2):Nat):Int) (List.length r20.2.2)) then
 bif (sub3 (0:Int) r20.1 (List.length (over r20.2.2 (List.replicate ((toN (((List.length r20.2.2):Nat):Int)) - (toN r20.1)) ((0:Int),(0:Int),(0:Int))) (toN r20.1) ((toN (((List.length r20.2.2):Nat):Int)) - (toN r20.1))))) then
 some ((cut (over r20.2.2 (List.replicate ((toN (((List.length r20.2.2):Nat):Int)) - (toN r20.1)) ((0:Int),(0:Int),(0:Int))) (toN r20.1) ((toN (((List.length r20.2.2):Nat):Int)) - (toN r20.1))) (toN (0:Int)) ((toN r20.1) - (toN (0:Int)))),r20.2.1)
 else
 none
 else
 none
abbrev Z13y:=Spec.shp Zt9 Zym Z9r
def Zkc:Ctx:={ tb:=mkTb T2.tbl,fx:=[(163,[2000000,203],Z144),(203,[],Spec.shpR Ztl Zyy Zae)],sum:=[(0,6,Yay Zo4 Zmi (loop Zdk))],nt:=42,pin:=1,nr:=true,ys:=[] }
theorem Z9s:Sound Tryz.prog 201 (Z13y) :=
 Sound.shp (C:=Zkc) (fn:=Tryz.f201) (by kernel_rfl) (c:=bodyOf Tryz.f201) (by kernel_rfl) (by decide) (ctxOK mixed tbl_ok rfl ⟨Za4,Zag,trivial⟩ trivial) (SumOK.of ⟨(Yb0 (d:=.loop (loopOf 6 Tryz.f201)) (by kernel_rfl) Zdl),trivial⟩) (by kernel_rfl) Zt9 Zym rfl (by decide) (by decide) rfl (by decide) rfl Z9r (fun x=>by kernel_rfl)
abbrev Ztk:Shape:={ sl:=sl_23,bl:=[],ts:=ts_12,pin:=0 }
abbrev Zyx:Shape:={ sl:=sl_23,bl:=[],ts:=ts_12,pin:=0 }
def Zad (x:T15):Option T15 :=
 (Zap x.1).bind fun r16 =>
 bif (Bool.not r16) then
 some (([]:List T7),(1:Int))
 else
 bif (decide (x.2 < (0:Int))) then
 some (([]:List T7),(1:Int))
 else
 (Z97 x.1).bind fun r17 =>
 (Z9r (x.2,r17)).bind fun r18 =>
 some (r18.1,(0:Int))
abbrev Z149:=Spec.shp Ztk Zyx Zad
def Zky:Ctx:={ tb:=mkTb T2.tbl,fx:=[(161,[],Z14e),(202,[],Z13o),(201,[2000000,203],Z13y)],sum:=[],nt:=17,pin:=0,nr:=true,ys:=[] }
theorem Zah:Sound Tryz.prog 164 (Z149) :=
 Sound.shp (C:=Zky) (fn:=Tryz.f164) (by kernel_rfl) (c:=bodyOf Tryz.f164) (by kernel_rfl) (by decide) (ctxOK mixed tbl_ok rfl ⟨Zas,Z98,Z9s,trivial⟩ trivial) (SumOK.of trivial) (by kernel_rfl) Ztk Zyx rfl (by decide) (by decide) rfl (by decide) rfl Zad (fun x=>by kernel_rfl)
abbrev Zq6:Shape:={ sl:=[(0,(.hole y23))],bl:=[],ts:=[y23],pin:=0 }
abbrev Zvj:Shape:={ sl:=sl_1,bl:=[],ts:=ts_1,pin:=0 }
def Z3j (x:T29):Option (Bool) :=
 bif (decide (x.2.1 < (0:Int))) then
 some false
 else
 (Zap x.2.2).bind fun r14 =>
 bif (Bool.not r14) then
 some false
 else
 bif (x.1 == (1:Int)) then
 (Zad (x.2.2,x.2.1)).bind fun r15 =>
 some ((((List.length r15.1):Nat):Int) == (((List.length x.2.2):Nat):Int))
 else
 bif (x.1 == (0:Int)) then
 bif (x.2.1 == (0:Int)) then
 some ((((List.length x.2.2):Nat):Int) == (0:Int))
 else
 some false
 else
 bif (x.1 == (2:Int)) then
 bif (x.2.1 == (0:Int)) then
 some ((((List.length x.2.2):Nat):Int) == (0:Int))
 else
 some false
 else
 some false
abbrev Z10w:=Spec.shp Zq6 Zvj Z3j
def Zg9:Ctx:={ tb:=mkTb T2.tbl,fx:=[(161,[],Z14e),(164,[],Z149)],sum:=[],nt:=44,pin:=0,nr:=true,ys:=[] }
theorem Z3k:Sound Tryz.prog 118 (Z10w) :=
 Sound.shp (C:=Zg9) (fn:=Tryz.f118) (by kernel_rfl) (c:=bodyOf Tryz.f118) (by kernel_rfl) (by decide) (ctxOK mixed tbl_ok rfl ⟨Zas,Zah,trivial⟩ trivial) (SumOK.of trivial) (by kernel_rfl) Zq6 Zvj rfl (by decide) (by decide) rfl (by decide) rfl Z3j (fun x=>by kernel_rfl)
abbrev Zmz:Shape:={ sl:=[(7,(.fn 114 .nil (.cons (.ptr 0 []) .nil))),(122,(.hole y26)),(123,(.hole (.int .i64))),(124,(.hole (.int .i64)))],bl:=bl_9,ts:=[y26,(.int .i64),(.int .i64),y45],pin:=0 }
abbrev Zld:List (ETag × Shape):=[(.ret,{ sl:=[(2,(.hole .bool))],bl:=[],ts:=ts_1,pin:=0 }),(.exit 4,{ sl:=[],bl:=[],ts:=[],pin:=0 })]
def Zb7 (x:(List T29 × Int × Int × (T47 × T61))):Option ((List T29 × Int × Int × (T47 × T61)) ⊕ ((Bool) ⊕ Unit)) :=
 bif (decide (x.2.2.1 < x.2.1)) then
 bif (inb x.2.2.1 (List.length x.1)) then
 (Z3j (getAt ((0:Int),(0:Int),([]:List T7)) x.1 (toN x.2.2.1))).bind fun r13 =>
 bif (Bool.not r13) then
 some (.inr (.inl false))
 else
 (Z1p ((7:Int),x.2.2.1,x.2.2.2)).bind fun r14 =>
 (Z9j ((getAt ((0:Int),(0:Int),([]:List T7)) x.1 (toN x.2.2.1)).2.2,r14.1,r14.2.1,r14.2.2)).bind fun r15 =>
 bif r15.1 then
 some (.inr (.inl false))
 else
 some (.inl (x.1,x.2.1,(IntKind.wrap .i64 (x.2.2.1+(1:Int))),r15.2.1))
 else
 none
 else
 some (.inr (.inr ()))
def Zf6:Ctx:={ tb:=mkTb T2.tbl,fx:=[(38,[],Z12p),(95,[107],Z13r),(112,[],Zzb),(109,[],Zzy),(113,[110],Z13t),(117,[],Zzn),(114,[],Z100),(113,[115],Z13u),(118,[],Z10w)],sum:=[(0,8,Yay Zn0 Zle (loop Zb9)),(0,16,Yay Zmy Zlc (loop Zb5))],nt:=141,pin:=0,nr:=true,ys:=[] }
theorem Zb8:CSound Tryz.prog ⟨141,0,true⟩ (.loop (loopOf 22 Tryz.f57)) (Yay Zmz Zld (loop Zb7)) :=
 Y8c (C:=Zf6) (ctxOK mixed tbl_ok rfl ⟨Z78,Z9e,Zb,Z1o,Z9i,Z11,Z1s,Z9k,Z3k,trivial⟩ trivial) (SumOK.of ⟨(Yaz (by kernel_rfl)),(Yaz (by kernel_rfl)),trivial⟩) Zmz Zld rfl rfl Zb7 (fun x=>by kernel_rfl)
abbrev Zp6:Shape:={ sl:=[(0,(.hole y45))],bl:=[],ts:=[y45],pin:=0 }
abbrev Zuj:Shape:={ sl:=sl_1,bl:=[],ts:=ts_1,pin:=0 }
def Z1i (x:T62):Option (Bool) :=
 (Z77 x.1).bind fun r6 =>
 bif (Bool.not r6) then
 some false
 else
 bif (decide ((((List.length x.2.1):Nat):Int) < (1:Int))) then
 some false
 else
 bif (decide ((((List.length x.2.1):Nat):Int) > (8:Int))) then
 some false
 else
 bif ((((List.length x.2.2.1):Nat):Int) != (((List.length x.1.1):Nat):Int)) then
 some false
 else
 bif ((((List.length x.2.2.2.1):Nat):Int) != x.1.2.1) then
 some false
 else
 bif ((((List.length x.2.2.2.2.1):Nat):Int) != x.1.2.2.1) then
 some false
 else
 bif (decide (x.2.2.2.2.2.1 < (0:Int))) then
 some false
 else
 (Z9d (x.2.1,x.1)).bind fun r7 =>
 bif r7.1 then
 some false
 else
 (loop Zb9 (x.2.2.1,(((List.length x.2.2.1):Nat):Int),(0:Int),x,r7.2)).bind fun r8 =>
 match r8 with
 | .inl y9 =>
 some y9
 | .inr y9 =>
 (loop Zb5 (y9.2.2.2.1,(((List.length y9.2.2.2.1):Nat):Int),(0:Int),y9)).bind fun r10 =>
 match r10 with
 | .inl y11 =>
 some y11
 | .inr y11 =>
 (loop Zb7 (y11.2.2.2.2.1,(((List.length y11.2.2.2.2.1):Nat):Int),(0:Int),y11)).bind fun r12 =>
 match r12 with
 | .inl y13 =>
 some y13
 | .inr y13 =>
 some true
abbrev Zzw:=Spec.shp Zp6 Zuj Z1i
def Zf2:Ctx:={ tb:=mkTb T2.tbl,fx:=[(38,[],Z12p),(95,[107],Z13r),(112,[],Zzb),(109,[],Zzy),(113,[110],Z13t),(117,[],Zzn),(114,[],Z100),(113,[115],Z13u),(118,[],Z10w)],sum:=[(0,8,Yay Zn0 Zle (loop Zb9)),(0,16,Yay Zmy Zlc (loop Zb5)),(0,22,Yay Zmz Zld (loop Zb7))],nt:=141,pin:=0,nr:=true,ys:=[] }
theorem Z1t:Sound Tryz.prog 57 (Zzw) :=
 Sound.shp (C:=Zf2) (fn:=Tryz.f57) (by kernel_rfl) (c:=bodyOf Tryz.f57) (by kernel_rfl) (by decide) (ctxOK mixed tbl_ok rfl ⟨Z78,Z9e,Zb,Z1o,Z9i,Z11,Z1s,Z9k,Z3k,trivial⟩ trivial) (SumOK.of ⟨(Yb0 (d:=.loop (loopOf 8 Tryz.f57)) (by kernel_rfl) Zba),(Yb0 (d:=.loop (loopOf 16 Tryz.f57)) (by kernel_rfl) Zb6),(Yb0 (d:=.loop (loopOf 22 Tryz.f57)) (by kernel_rfl) Zb8),trivial⟩) (by kernel_rfl) Zp6 Zuj rfl (by decide) (by decide) rfl (by decide) rfl Z1i (fun x=>by kernel_rfl)
abbrev Zoq:Shape:={ sl:=sl_15,bl:=bl_12,ts:=[y42],pin:=0 }
abbrev Zu3:Shape:={ sl:=sl_1,bl:=bl_12,ts:=[.bool,y42],pin:=1 }
def Zl (x:(T46)):Option (Bool × T46) :=
 some ((decide (x.1.1 < (0:Int))),x)
abbrev Zzg:=Spec.shp Zoq Zu3 Zl
def Zej:Ctx:={ tb:=mkTb T2.tbl,fx:=[],sum:=[],nt:=9,pin:=1,nr:=true,ys:=[] }
theorem Zm:Sound Tryz.prog 165 (Zzg) :=
 Sound.shp (C:=Zej) (fn:=Tryz.f165) (by kernel_rfl) (c:=bodyOf Tryz.f165) (by kernel_rfl) (by decide) (ctxOK mixed tbl_ok rfl trivial trivial) (SumOK.of trivial) (by kernel_rfl) Zoq Zu3 rfl (by decide) (by decide) rfl (by decide) rfl Zl (fun x=>by kernel_rfl)
theorem Zn:Sound Tryz.prog 165 (Spec.shpR Zoq Zu3 Zl) :=
 Sound.shpR (fun x y h=>by have h:=Option.some.inj h; subst h; rfl) Zm
abbrev Zop:Shape:={ sl:=sl_15,bl:=bl_12,ts:=[y42],pin:=0 }
abbrev Zu2:Shape:={ sl:=sl_1,bl:=bl_12,ts:=[.bool,y42],pin:=1 }
def Zi (x:(T46)):Option (Bool × T46) :=
 some ((x.1.2.2.1.2.2.2 == x.1.2.2.1.1),x)
abbrev Zzf:=Spec.shp Zop Zu2 Zi
def Zei:Ctx:={ tb:=mkTb T2.tbl,fx:=[],sum:=[],nt:=16,pin:=1,nr:=true,ys:=[] }
theorem Zj:Sound Tryz.prog 166 (Zzf) :=
 Sound.shp (C:=Zei) (fn:=Tryz.f166) (by kernel_rfl) (c:=bodyOf Tryz.f166) (by kernel_rfl) (by decide) (ctxOK mixed tbl_ok rfl trivial trivial) (SumOK.of trivial) (by kernel_rfl) Zop Zu2 rfl (by decide) (by decide) rfl (by decide) rfl Zi (fun x=>by kernel_rfl)
theorem Zk:Sound Tryz.prog 166 (Spec.shpR Zop Zu2 Zi) :=
 Sound.shpR (fun x y h=>by have h:=Option.some.inj h; subst h; rfl) Zj
abbrev Ztn:Shape:={ sl:=[(0,(.hole y5)),(1,(.ptr 0 []))],bl:=bl_3,ts:=[y5,(.int .i64)],pin:=0 }
abbrev Zz0:Shape:={ sl:=sl_1,bl:=bl_3,ts:=[.bool,(.int .i64)],pin:=1 }
def Zaj (x:(T7 × Int)):Option T0 :=
 some ((x.1.1 != x.2),x.2)
abbrev Z14c:=Spec.shp Ztn Zz0 Zaj
def Zl1:Ctx:={ tb:=mkTb T2.tbl,fx:=[],sum:=[],nt:=8,pin:=1,nr:=true,ys:=[] }
theorem Zak:Sound Tryz.prog 233 (Z14c) :=
 Sound.shp (C:=Zl1) (fn:=Tryz.f233) (by kernel_rfl) (c:=bodyOf Tryz.f233) (by kernel_rfl) (by decide) (ctxOK mixed tbl_ok rfl trivial trivial) (SumOK.of trivial) (by kernel_rfl) Ztn Zz0 rfl (by decide) (by decide) rfl (by decide) rfl Zaj (fun x=>by kernel_rfl)
theorem Zal:Sound Tryz.prog 233 (Spec.shpR Ztn Zz0 Zaj) :=
 Sound.shpR (fun x y h=>by have h:=Option.some.inj h; subst h; rfl) Zak
abbrev Zob:Shape:={ sl:=[(0,(.hole (.slice y5))),(1,(.fn 233 .nil (.cons (.ptr 0 []) .nil))),(7,(.hole (.int .i64))),(8,(.hole (.int .i64)))],bl:=bl_3,ts:=[(.slice y5),(.int .i64),(.int .i64),(.int .i64)],pin:=1 }
abbrev Zmp:List (ETag × Shape):=[(.ret,{ sl:=sl_3,bl:=bl_3,ts:=ts_5,pin:=1 }),(.exit 0,{ sl:=[],bl:=bl_3,ts:=ts_2,pin:=1 })]
def Zdy (x:(List (T7) × Int × Int × Int)):Option ((List (T7) × Int × Int × Int) ⊕ ((Int × Int) ⊕ (Int))) :=
 bif (decide (x.2.2.1 < x.2.1)) then
 bif (inb x.2.2.1 (List.length x.1)) then
 (Zaj ((getAt ((0:Int),(0:Int),(0:Int)) x.1 (toN x.2.2.1)),x.2.2.2)).bind fun r18 =>
 bif r18.1 then
 some (.inr (.inl (x.2.2.1,x.2.2.2)))
 else
 some (.inl (x.1,x.2.1,(IntKind.wrap .i64 (x.2.2.1+(1:Int))),x.2.2.2))
 else
 none
 else
 some (.inr (.inr x.2.2.2))
def Zkr:Ctx:={ tb:=mkTb T2.tbl,fx:=[(233,[],Spec.shpR Ztn Zz0 Zaj)],sum:=[],nt:=19,pin:=1,nr:=true,ys:=[] }
theorem Zdz:CSound Tryz.prog ⟨19,1,true⟩ (.loop (loopOf 3 Tryz.f163)) (Yay Zob Zmp (loop Zdy)) :=
 Y8c (C:=Zkr) (ctxOK mixed tbl_ok rfl ⟨Zal,trivial⟩ trivial) (SumOK.of trivial) Zob Zmp rfl rfl Zdy (fun x=>by kernel_rfl)
abbrev Ztg:Shape:={ sl:=[(0,(.hole (.slice y5))),(1,(.fn 233 .nil (.cons (.ptr 0 []) .nil)))],bl:=bl_3,ts:=ts_12,pin:=0 }
abbrev Zyt:Shape:={ sl:=sl_2,bl:=bl_3,ts:=ts_5,pin:=1 }
def Za5 (x:T15):Option (Int × Int) :=
 (loop Zdy (x.1,(((List.length x.1):Nat):Int),(0:Int),x.2)).bind fun r17 =>
 match r17 with
 | .inl y18 =>
 some (y18.1,y18.2)
 | .inr y18 =>
 some ((Int.negSucc 0),y18)
abbrev Z145:=Spec.shp Ztg Zyt Za5
def Zkq:Ctx:={ tb:=mkTb T2.tbl,fx:=[(233,[],Spec.shpR Ztn Zz0 Zaj)],sum:=[(0,3,Yay Zob Zmp (loop Zdy))],nt:=19,pin:=1,nr:=true,ys:=[] }
theorem Za6:Sound Tryz.prog 163 (Z145) :=
 Sound.shp (C:=Zkq) (fn:=Tryz.f163) (by kernel_rfl) (c:=bodyOf Tryz.f163) (by kernel_rfl) (by decide) (ctxOK mixed tbl_ok rfl ⟨Zal,trivial⟩ trivial) (SumOK.of ⟨(Yb0 (d:=.loop (loopOf 3 Tryz.f163)) (by kernel_rfl) Zdz),trivial⟩) (by kernel_rfl) Ztg Zyt rfl (by decide) (by decide) rfl (by decide) rfl Za5 (fun x=>by kernel_rfl)
abbrev Ztm:Shape:={ sl:=sl_23,bl:=[],ts:=ts_12,pin:=0 }
abbrev Zyz:Shape:={ sl:=[(0,(.hole y5)),(1,(.hole (.int .i64)))],bl:=[],ts:=[y5,(.int .i64)],pin:=0 }
def Zai (x:T15):Option (T7 × Int) :=
 (Zap x.1).bind fun r15 =>
 bif (Bool.not r15) then
 some (((0:Int),(0:Int),(0:Int)),(1:Int))
 else
 bif (decide (x.2 < (0:Int))) then
 some (((0:Int),(0:Int),(0:Int)),(1:Int))
 else
 (Za5 (x.1,x.2)).bind fun r16 =>
 bif (decide (r16.1 < (0:Int))) then
 some (((0:Int),(0:Int),(0:Int)),(4:Int))
 else
 bif (inb r16.1 (List.length x.1)) then
 some ((getAt ((0:Int),(0:Int),(0:Int)) x.1 (toN r16.1)),(0:Int))
 else
 none
abbrev Z14b:=Spec.shp Ztm Zyz Zai
def Zl0:Ctx:={ tb:=mkTb T2.tbl,fx:=[(161,[],Z14e),(163,[233],Z145)],sum:=[],nt:=25,pin:=0,nr:=true,ys:=[] }
theorem Zam:Sound Tryz.prog 204 (Z14b) :=
 Sound.shp (C:=Zl0) (fn:=Tryz.f204) (by kernel_rfl) (c:=bodyOf Tryz.f204) (by kernel_rfl) (by decide) (ctxOK mixed tbl_ok rfl ⟨Zas,Za6,trivial⟩ trivial) (SumOK.of trivial) (by kernel_rfl) Ztm Zyz rfl (by decide) (by decide) rfl (by decide) rfl Zai (fun x=>by kernel_rfl)
abbrev Zos:Shape:={ sl:=[(0,(.ptr 0 [])),(1,(.hole (.slice y5)))],bl:=bl_12,ts:=[(.slice y5),y42],pin:=0 }
abbrev Zu5:Shape:={ sl:=sl_17,bl:=bl_12,ts:=[y5,y42],pin:=1 }
def Zq (x:(List (T7) × T46)):Option (T7 × T46) :=
 (Zai (x.1,x.2.2)).bind fun r14 =>
 bif (r14.2 != (0:Int)) then
 bif ((r14.1.1 == ((0:Int),(0:Int),(0:Int)).1) && ((r14.1.2.1 == ((0:Int),(0:Int),(0:Int)).2.1) && (r14.1.2.2 == ((0:Int),(0:Int),(0:Int)).2.2))) then
 some (((Int.negSucc 0),(0:Int),(0:Int)),x.2)
 else
 some (r14.1,x.2)
 else
 some (r14.1,x.2)
abbrev Zzi:=Spec.shp Zos Zu5 Zq
def Zel:Ctx:={ tb:=mkTb T2.tbl,fx:=[(204,[],Z14b)],sum:=[],nt:=27,pin:=1,nr:=true,ys:=[] }
theorem Zr:Sound Tryz.prog 167 (Zzi) :=
 Sound.shp (C:=Zel) (fn:=Tryz.f167) (by kernel_rfl) (c:=bodyOf Tryz.f167) (by kernel_rfl) (by decide) (ctxOK mixed tbl_ok rfl ⟨Zam,trivial⟩ trivial) (SumOK.of trivial) (by kernel_rfl) Zos Zu5 rfl (by decide) (by decide) rfl (by decide) rfl Zq (fun x=>by kernel_rfl)
abbrev Zoj:Shape:={ sl:=[(0,(.hole y40)),(1,(.hole .bool)),(2,(.hole (.int .i64)))],bl:=[],ts:=[y40,.bool,(.int .i64)],pin:=0 }
abbrev Ztw:Shape:={ sl:=[(0,(.hole .bool)),(1,(.hole (.int .i64)))],bl:=[],ts:=[.bool,(.int .i64)],pin:=0 }
def Z6 (x:((Int × T40) × Bool × Int)):Option T0 :=
 (Za x.1).bind fun r10 =>
 bif (Bool.not r10) then
 some (false,(1:Int))
 else
 bif (decide (x.2.2 < (0:Int))) then
 some (false,(1:Int))
 else
 (Zl (x.1,x.2.2)).bind fun r11 =>
 bif r11.1 then
 some (false,(0:Int))
 else
 bif x.1.2.1 then
 some (true,(0:Int))
 else
 bif x.2.1 then
 (Zi (x.1,x.2.2)).bind fun r12 =>
 bif (Bool.not r12.1) then
 some (true,(0:Int))
 else
 (Zq (x.1.2.2.2.2.2.2,x.1,x.2.2)).bind fun r13 =>
 some ((r13.1.1 != (Int.negSucc 0)),(0:Int))
 else
 bif (decide (x.1.2.2.1.2.2.2 > (0:Int))) then
 some (true,(0:Int))
 else
 (Zq (x.1.2.2.2.2.2.1,x.1,x.2.2)).bind fun r12 =>
 some ((r12.1.1 != (Int.negSucc 0)),(0:Int))
abbrev Zz9:=Spec.shp Zoj Ztw Z6
def Zeb:Ctx:={ tb:=mkTb T2.tbl,fx:=[(112,[],Zzb),(165,[],Spec.shpR Zoq Zu3 Zl),(166,[],Spec.shpR Zop Zu2 Zi),(167,[],Zzi)],sum:=[],nt:=63,pin:=0,nr:=true,ys:=[] }
theorem Z7:Sound Tryz.prog 119 (Zz9) :=
 Sound.shp (C:=Zeb) (fn:=Tryz.f119) (by kernel_rfl) (c:=bodyOf Tryz.f119) (by kernel_rfl) (by decide) (ctxOK mixed tbl_ok rfl ⟨Zb,Zn,Zk,Zr,trivial⟩ trivial) (SumOK.of trivial) (by kernel_rfl) Zoj Ztw rfl (by decide) (by decide) rfl (by decide) rfl Z6 (fun x=>by kernel_rfl)
abbrev Zmx:Shape:={ sl:=[(1,(.hole (.int .i64))),(2,(.ptr 0 [])),(7,(.sl 1)),(38,(.hole (.slice y2))),(39,(.hole (.int .i64))),(40,(.hole (.int .i64)))],bl:=bl_13,ts:=ts_13,pin:=0 }
abbrev Zlb:List (ETag × Shape):=[(.exit 0,{ sl:=[(7,(.sl 0))],bl:=[.row y4],ts:=[(.slice y4)],pin:=0 })]
def Zb3 (x:T68):Option (T68 ⊕ (T6)) :=
 bif (decide (x.2.2.2.1 < x.2.2.1)) then
 bif (inb x.2.2.2.1 (List.length x.2.1)) then
 bif (inb (getAt (false,(0:Int)) x.2.1 (toN x.2.2.2.1)).2 (List.length x.2.2.2.2.1.2.2.1)) then
 (Z6 ((getAt ((0:Int),false,((0:Int),(0:Int),([]:List Int),(0:Int)),(0:Int),(0:Int),([]:List T7),([]:List T7)) x.2.2.2.2.1.2.2.1 (toN (getAt (false,(0:Int)) x.2.1 (toN x.2.2.2.1)).2)),(getAt (false,(0:Int)) x.2.1 (toN x.2.2.2.1)).1,x.1)).bind fun r9 =>
 bif r9.1 then
 bif (fits ((List.length x.2.2.2.2.2)+(List.length ((x.1,x.2.2.2.1) :: ([]:List (Int × Int)))))) then
 some (.inl (x.1,x.2.1,x.2.2.1,(IntKind.wrap .i64 (x.2.2.2.1+(1:Int))),x.2.2.2.2.1,(x.2.2.2.2.2++((x.1,x.2.2.2.1) :: ([]:List (Int × Int))))))
 else
 none
 else
 some (.inl (x.1,x.2.1,x.2.2.1,(IntKind.wrap .i64 (x.2.2.2.1+(1:Int))),x.2.2.2.2.1,x.2.2.2.2.2))
 else
 none
 else
 none
 else
 some (.inr x.2.2.2.2.2)
def Zf1:Ctx:={ tb:=mkTb T2.tbl,fx:=[(119,[],Zz9)],sum:=[],nt:=67,pin:=0,nr:=true,ys:=[] }
theorem Zb4:CSound Tryz.prog ⟨67,0,true⟩ (.loop (loopOf 8 Tryz.f58)) (Yay Zmx Zlb (loop Zb3)) :=
 Y8c (C:=Zf1) (ctxOK mixed tbl_ok rfl ⟨Z7,trivial⟩ trivial) (SumOK.of trivial) Zmx Zlb rfl rfl Zb3 (fun x=>by kernel_rfl)
abbrev Zp5:Shape:={ sl:=[(0,(.hole y45)),(1,(.hole (.int .i64)))],bl:=[],ts:=[y45,(.int .i64)],pin:=0 }
abbrev Zui:Shape:={ sl:=[(0,(.hole (.slice y4)))],bl:=[],ts:=[(.slice y4)],pin:=0 }
def Z1g (x:((T47 × T61) × Int)):Option T6 :=
 bif (inb x.2 (List.length x.1.2.1)) then
 bif (inb (getAt ((0:Int),(0:Int),(0:Int),false) x.1.2.1 (toN x.2)).1 (List.length x.1.1.2.2.2.2.2)) then
 bif (inb (getAt ((0:Int),(0:Int),(0:Int),false) x.1.2.1 (toN x.2)).2.1 (List.length (getAt ([]:List T7) x.1.1.2.2.2.2.2 (toN (getAt ((0:Int),(0:Int),(0:Int),false) x.1.2.1 (toN x.2)).1)))) then
 bif ((getAt ((0:Int),(0:Int),(0:Int)) (getAt ([]:List T7) x.1.1.2.2.2.2.2 (toN (getAt ((0:Int),(0:Int),(0:Int),false) x.1.2.1 (toN x.2)).1)) (toN (getAt ((0:Int),(0:Int),(0:Int),false) x.1.2.1 (toN x.2)).2.1)).1 != (4:Int)) then
 some ([]:List (Int × Int))
 else
 bif (inb (getAt ((0:Int),(0:Int),(0:Int)) (getAt ([]:List T7) x.1.1.2.2.2.2.2 (toN (getAt ((0:Int),(0:Int),(0:Int),false) x.1.2.1 (toN x.2)).1)) (toN (getAt ((0:Int),(0:Int),(0:Int),false) x.1.2.1 (toN x.2)).2.1)).2.1 (List.length x.1.1.2.2.2.2.1)) then
 (loop Zb3 (x.2,(getAt (([]:List T0),false) x.1.1.2.2.2.2.1 (toN (getAt ((0:Int),(0:Int),(0:Int)) (getAt ([]:List T7) x.1.1.2.2.2.2.2 (toN (getAt ((0:Int),(0:Int),(0:Int),false) x.1.2.1 (toN x.2)).1)) (toN (getAt ((0:Int),(0:Int),(0:Int),false) x.1.2.1 (toN x.2)).2.1)).2.1)).1,(((List.length (getAt (([]:List T0),false) x.1.1.2.2.2.2.1 (toN (getAt ((0:Int),(0:Int),(0:Int)) (getAt ([]:List T7) x.1.1.2.2.2.2.2 (toN (getAt ((0:Int),(0:Int),(0:Int),false) x.1.2.1 (toN x.2)).1)) (toN (getAt ((0:Int),(0:Int),(0:Int),false) x.1.2.1 (toN x.2)).2.1)).2.1)).1):Nat):Int),(0:Int),x.1,([]:List (Int × Int)))).bind fun r8 =>
 some r8
 else
 none
 else
 none
 else
 none
 else
 none
abbrev Zzv:=Spec.shp Zp5 Zui Z1g
def Zf0:Ctx:={ tb:=mkTb T2.tbl,fx:=[(119,[],Zz9)],sum:=[(0,8,Yay Zmx Zlb (loop Zb3))],nt:=67,pin:=0,nr:=true,ys:=[] }
theorem Z1h:Sound Tryz.prog 58 (Zzv) :=
 Sound.shp (C:=Zf0) (fn:=Tryz.f58) (by kernel_rfl) (c:=bodyOf Tryz.f58) (by kernel_rfl) (by decide) (ctxOK mixed tbl_ok rfl ⟨Z7,trivial⟩ trivial) (SumOK.of ⟨(Yb0 (d:=.loop (loopOf 8 Tryz.f58)) (by kernel_rfl) Zb4),trivial⟩) (by kernel_rfl) Zp5 Zui rfl (by decide) (by decide) rfl (by decide) rfl Z1g (fun x=>by kernel_rfl)
abbrev Zmv:Shape:={ sl:=[(1,(.ptr 0 [])),(3,(.sl 1)),(16,(.hole y18)),(17,(.hole (.int .i64))),(18,(.hole (.int .i64)))],bl:=bl_13,ts:=[y18,(.int .i64),(.int .i64),y45,(.slice y4)],pin:=0 }
abbrev Zl9:List (ETag × Shape):=[(.exit 0,{ sl:=[(3,(.sl 0))],bl:=[.row y4],ts:=[(.slice y4)],pin:=0 })]
def Zaz (x:T67):Option (T67 ⊕ (T6)) :=
 bif (decide (x.2.2.1 < x.2.1)) then
 bif (inb x.2.2.1 (List.length x.1)) then
 bif ((getAt ((0:Int),(0:Int),(0:Int),false) x.1 (toN x.2.2.1)).2.2.1 != (0:Int)) then
 some (.inl (x.1,x.2.1,(IntKind.wrap .i64 (x.2.2.1+(1:Int))),x.2.2.2.1,x.2.2.2.2))
 else
 (Z1g (x.2.2.2.1,x.2.2.1)).bind fun r7 =>
 bif ((((List.length r7):Nat):Int) == (0:Int)) then
 bif (fits ((List.length x.2.2.2.2)+(List.length ((x.2.2.1,(Int.negSucc 0)) :: ([]:List (Int × Int)))))) then
 some (.inl (x.1,x.2.1,(IntKind.wrap .i64 (x.2.2.1+(1:Int))),x.2.2.2.1,(x.2.2.2.2++((x.2.2.1,(Int.negSucc 0)) :: ([]:List (Int × Int))))))
 else
 none
 else
 bif (fits ((List.length x.2.2.2.2)+(List.length r7))) then
 some (.inl (x.1,x.2.1,(IntKind.wrap .i64 (x.2.2.1+(1:Int))),x.2.2.2.1,(x.2.2.2.2++r7)))
 else
 none
 else
 none
 else
 some (.inr x.2.2.2.2)
def Zeu:Ctx:={ tb:=mkTb T2.tbl,fx:=[(57,[],Zzw),(58,[],Zzv)],sum:=[],nt:=40,pin:=0,nr:=true,ys:=[] }
theorem Zb0:CSound Tryz.prog ⟨40,0,true⟩ (.loop (loopOf 6 Tryz.f22)) (Yay Zmv Zl9 (loop Zaz)) :=
 Y8c (C:=Zeu) (ctxOK mixed tbl_ok rfl ⟨Z1t,Z1h,trivial⟩ trivial) (SumOK.of trivial) Zmv Zl9 rfl rfl Zaz (fun x=>by kernel_rfl)
abbrev Zp0:Shape:={ sl:=[(0,(.hole y45))],bl:=[],ts:=[y45],pin:=0 }
abbrev Zud:Shape:={ sl:=[(0,(.hole (.slice y4)))],bl:=[],ts:=[(.slice y4)],pin:=0 }
def Z16 (x:T62):Option T6 :=
 (Z1i x).bind fun r5 =>
 bif (Bool.not r5) then
 some ([]:List (Int × Int))
 else
 bif (x.2.2.2.2.2.2 != (0:Int)) then
 some ([]:List (Int × Int))
 else
 (loop Zaz (x.2.1,(((List.length x.2.1):Nat):Int),(0:Int),x,([]:List (Int × Int)))).bind fun r6 =>
 some r6
abbrev Zzq:=Spec.shp Zp0 Zud Z16
def Zet:Ctx:={ tb:=mkTb T2.tbl,fx:=[(57,[],Zzw),(58,[],Zzv)],sum:=[(0,6,Yay Zmv Zl9 (loop Zaz))],nt:=40,pin:=0,nr:=true,ys:=[] }
theorem Z17:Sound Tryz.prog 22 (Zzq) :=
 Sound.shp (C:=Zet) (fn:=Tryz.f22) (by kernel_rfl) (c:=bodyOf Tryz.f22) (by kernel_rfl) (by decide) (ctxOK mixed tbl_ok rfl ⟨Z1t,Z1h,trivial⟩ trivial) (SumOK.of ⟨(Yb0 (d:=.loop (loopOf 6 Tryz.f22)) (by kernel_rfl) Zb0),trivial⟩) (by kernel_rfl) Zp0 Zud rfl (by decide) (by decide) rfl (by decide) rfl Z16 (fun x=>by kernel_rfl)
abbrev Zoe:Shape:={ sl:=[(0,(.hole (.slice y4))),(3,(.ptr 0 [])),(7,(.hole (.int .i64))),(8,(.hole (.int .i64)))],bl:=[.var (.hole y4)],ts:=[(.slice y4),(.int .i64),(.int .i64),y4],pin:=0 }
abbrev Zms:List (ETag × Shape):=[(.ret,{ sl:=sl_3,bl:=[],ts:=ts_2,pin:=0 }),(.exit 0,{ sl:=[],bl:=[],ts:=[],pin:=0 })]
def Ze4 (x:T11):Option (T11 ⊕ ((Int) ⊕ Unit)) :=
 bif (decide (x.2.2.1 < x.2.1)) then
 bif (inb x.2.2.1 (List.length x.1)) then
 bif ((x.2.2.2.1 == (getAt ((0:Int),(0:Int)) x.1 (toN x.2.2.1)).1) && (x.2.2.2.2 == (getAt ((0:Int),(0:Int)) x.1 (toN x.2.2.1)).2)) then
 some (.inr (.inl x.2.2.1))
 else
 some (.inl (x.1,x.2.1,(IntKind.wrap .i64 (x.2.2.1+(1:Int))),x.2.2.2))
 else
 none
 else
 some (.inr (.inr ()))
def Zkx:Ctx:={ tb:=mkTb T2.tbl,fx:=[],sum:=[],nt:=19,pin:=0,nr:=true,ys:=[] }
theorem Ze5:CSound Tryz.prog ⟨19,0,true⟩ (.loop (loopOf 3 Tryz.f84)) (Yay Zoe Zms (loop Ze4)) :=
 Y8c (C:=Zkx) (ctxOK mixed tbl_ok rfl trivial trivial) (SumOK.of trivial) Zoe Zms rfl rfl Ze4 (fun x=>by kernel_rfl)
abbrev Ztj:Shape:={ sl:=sl_24,bl:=[],ts:=[(.slice y4),y4],pin:=0 }
abbrev Zyw:Shape:={ sl:=sl_2,bl:=[],ts:=ts_2,pin:=0 }
def Zab (x:(List (Int × Int) × (Int × Int))):Option (Int) :=
 (loop Ze4 (x.1,(((List.length x.1):Nat):Int),(0:Int),x.2)).bind fun r9 =>
 match r9 with
 | .inl y10 =>
 some y10
 | .inr y10 =>
 some (Int.negSucc 0)
abbrev Z148:=Spec.shp Ztj Zyw Zab
def Zkw:Ctx:={ tb:=mkTb T2.tbl,fx:=[],sum:=[(0,3,Yay Zoe Zms (loop Ze4))],nt:=19,pin:=0,nr:=true,ys:=[] }
theorem Zac:Sound Tryz.prog 84 (Z148) :=
 Sound.shp (C:=Zkw) (fn:=Tryz.f84) (by kernel_rfl) (c:=bodyOf Tryz.f84) (by kernel_rfl) (by decide) (ctxOK mixed tbl_ok rfl trivial trivial) (SumOK.of ⟨(Yb0 (d:=.loop (loopOf 3 Tryz.f84)) (by kernel_rfl) Ze5),trivial⟩) (by kernel_rfl) Ztj Zyw rfl (by decide) (by decide) rfl (by decide) rfl Zab (fun x=>by kernel_rfl)
abbrev Zt8:Shape:={ sl:=sl_24,bl:=[],ts:=[(.slice y4),y4],pin:=0 }
abbrev Zyl:Shape:={ sl:=sl_1,bl:=[],ts:=ts_1,pin:=0 }
def Z9p (x:(List (Int × Int) × (Int × Int))):Option (Bool) :=
 (Zab (x.1,x.2)).bind fun r8 =>
 some (decide (r8 ≥ (0:Int)))
abbrev Z13x:=Spec.shp Zt8 Zyl Z9p
def Zkb:Ctx:={ tb:=mkTb T2.tbl,fx:=[(84,[],Z148)],sum:=[],nt:=9,pin:=0,nr:=true,ys:=[] }
theorem Z9q:Sound Tryz.prog 59 (Z13x) :=
 Sound.shp (C:=Zkb) (fn:=Tryz.f59) (by kernel_rfl) (c:=bodyOf Tryz.f59) (by kernel_rfl) (by decide) (ctxOK mixed tbl_ok rfl ⟨Zac,trivial⟩ trivial) (SumOK.of trivial) (by kernel_rfl) Zt8 Zyl rfl (by decide) (by decide) rfl (by decide) rfl Z9p (fun x=>by kernel_rfl)
abbrev Zsw:Shape:={ sl:=[(0,(.hole y18))],bl:=[],ts:=[y18],pin:=0 }
abbrev Zy9:Shape:={ sl:=[(0,(.sl 0))],bl:=[.row y12],ts:=[y18],pin:=0 }
def Z91 (x:(List (T17))):Option (List (T17)) :=
 bif (@Nat.beq (List.length x) (0:Nat)) then
 amb (
 some ([]:List T17)) (
 bif (fits ((List.length ([]:List T17))+(List.length x))) then
 some (([]:List T17)++x)
 else
 none)
 else
 bif (fits ((List.length ([]:List T17))+(List.length x))) then
 some (([]:List T17)++x)
 else
 none
abbrev Z13l:=Spec.shp Zsw Zy9 Z91
def Zjz:Ctx:={ tb:=mkTb T2.tbl,fx:=[],sum:=[],nt:=8,pin:=0,nr:=true,ys:=[] }
theorem Z92:Sound Tryz.prog 60 (Z13l) :=
 Sound.shp (C:=Zjz) (fn:=Tryz.f60) (by kernel_rfl) (c:=bodyOf Tryz.f60) (by kernel_rfl) (by decide) (ctxOK mixed tbl_ok rfl trivial trivial) (SumOK.of trivial) (by kernel_rfl) Zsw Zy9 rfl (by decide) (by decide) rfl (by decide) rfl Z91 (fun x=>by kernel_rfl)
abbrev Zsu:Shape:={ sl:=[(0,(.hole y41))],bl:=[],ts:=[y41],pin:=0 }
abbrev Zy7:Shape:={ sl:=[(0,(.sl 0))],bl:=[.row y40],ts:=[y41],pin:=0 }
def Z8x (x:(List T43)):Option (List T43) :=
 bif (@Nat.beq (List.length x) (0:Nat)) then
 amb (
 some ([]:List (Int × T41))) (
 bif (fits ((List.length ([]:List (Int × T41)))+(List.length x))) then
 some (([]:List (Int × T41))++x)
 else
 none)
 else
 bif (fits ((List.length ([]:List (Int × T41)))+(List.length x))) then
 some (([]:List (Int × T41))++x)
 else
 none
abbrev Z13j:=Spec.shp Zsu Zy7 Z8x
def Zjx:Ctx:={ tb:=mkTb T2.tbl,fx:=[],sum:=[],nt:=8,pin:=0,nr:=true,ys:=[] }
theorem Z8y:Sound Tryz.prog 61 (Z13j) :=
 Sound.shp (C:=Zjx) (fn:=Tryz.f61) (by kernel_rfl) (c:=bodyOf Tryz.f61) (by kernel_rfl) (by decide) (ctxOK mixed tbl_ok rfl trivial trivial) (SumOK.of trivial) (by kernel_rfl) Zsu Zy7 rfl (by decide) (by decide) rfl (by decide) rfl Z8x (fun x=>by kernel_rfl)
abbrev Zsx:Shape:={ sl:=[(0,(.hole y19))],bl:=[],ts:=[y19],pin:=0 }
abbrev Zya:Shape:={ sl:=[(0,(.sl 0))],bl:=[.row y15],ts:=[y19],pin:=0 }
def Z93 (x:(List (T18))):Option (List (T18)) :=
 bif (@Nat.beq (List.length x) (0:Nat)) then
 amb (
 some ([]:List T22)) (
 bif (fits ((List.length ([]:List T22))+(List.length x))) then
 some (([]:List T22)++x)
 else
 none)
 else
 bif (fits ((List.length ([]:List T22))+(List.length x))) then
 some (([]:List T22)++x)
 else
 none
abbrev Z13m:=Spec.shp Zsx Zya Z93
def Zk0:Ctx:={ tb:=mkTb T2.tbl,fx:=[],sum:=[],nt:=8,pin:=0,nr:=true,ys:=[] }
theorem Z94:Sound Tryz.prog 62 (Z13m) :=
 Sound.shp (C:=Zk0) (fn:=Tryz.f62) (by kernel_rfl) (c:=bodyOf Tryz.f62) (by kernel_rfl) (by decide) (ctxOK mixed tbl_ok rfl trivial trivial) (SumOK.of trivial) (by kernel_rfl) Zsx Zya rfl (by decide) (by decide) rfl (by decide) rfl Z93 (fun x=>by kernel_rfl)
abbrev Zsy:Shape:={ sl:=[(0,(.hole y26))],bl:=[],ts:=[y26],pin:=0 }
abbrev Zyb:Shape:={ sl:=[(0,(.sl 0))],bl:=[.row y23],ts:=[y26],pin:=0 }
def Z95 (x:(List T29)):Option (List T29) :=
 bif (@Nat.beq (List.length x) (0:Nat)) then
 amb (
 some ([]:List (Int × T14))) (
 bif (fits ((List.length ([]:List (Int × T14)))+(List.length x))) then
 some (([]:List (Int × T14))++x)
 else
 none)
 else
 bif (fits ((List.length ([]:List (Int × T14)))+(List.length x))) then
 some (([]:List (Int × T14))++x)
 else
 none
abbrev Z13n:=Spec.shp Zsy Zyb Z95
def Zk1:Ctx:={ tb:=mkTb T2.tbl,fx:=[],sum:=[],nt:=8,pin:=0,nr:=true,ys:=[] }
theorem Z96:Sound Tryz.prog 63 (Z13n) :=
 Sound.shp (C:=Zk1) (fn:=Tryz.f63) (by kernel_rfl) (c:=bodyOf Tryz.f63) (by kernel_rfl) (by decide) (ctxOK mixed tbl_ok rfl trivial trivial) (SumOK.of trivial) (by kernel_rfl) Zsy Zyb rfl (by decide) (by decide) rfl (by decide) rfl Z95 (fun x=>by kernel_rfl)
abbrev Zpi:Shape:={ sl:=sl_25,bl:=bl_2,ts:=ts_10,pin:=0 }
abbrev Zuv:Shape:={ sl:=sl_17,bl:=bl_2,ts:=[y5,y39,y4,y18,y41,y19,y26,y27],pin:=1 }
def Z26 (x:T58):Option (T7 × T47 × (Int × Int) × List (T17) × List T43 × List (T18) × List T29 × List (T20)) :=
 bif (inb x.1 (List.length x.2.2.2.1)) then
 bif (inb (getAt ((0:Int),(0:Int),(0:Int),false) x.2.2.2.1 (toN x.1)).1 (List.length x.2.1.2.2.2.2.2)) then
 bif (inb (getAt ((0:Int),(0:Int),(0:Int),false) x.2.2.2.1 (toN x.1)).2.1 (List.length (getAt ([]:List T7) x.2.1.2.2.2.2.2 (toN (getAt ((0:Int),(0:Int),(0:Int),false) x.2.2.2.1 (toN x.1)).1)))) then
 some ((getAt ((0:Int),(0:Int),(0:Int)) (getAt ([]:List T7) x.2.1.2.2.2.2.2 (toN (getAt ((0:Int),(0:Int),(0:Int),false) x.2.2.2.1 (toN x.1)).1)) (toN (getAt ((0:Int),(0:Int),(0:Int),false) x.2.2.2.1 (toN x.1)).2.1)),x.2.1,x.2.2.1,x.2.2.2.1,x.2.2.2.2.1,x.2.2.2.2.2.1,x.2.2.2.2.2.2.1,x.2.2.2.2.2.2.2)
 else
 none
 else
 none
 else
 none
abbrev Z108:=Spec.shp Zpi Zuv Z26
def Zfj:Ctx:={ tb:=mkTb T2.tbl,fx:=[],sum:=[],nt:=28,pin:=1,nr:=true,ys:=[] }
theorem Z27:Sound Tryz.prog 78 (Z108) :=
 Sound.shp (C:=Zfj) (fn:=Tryz.f78) (by kernel_rfl) (c:=bodyOf Tryz.f78) (by kernel_rfl) (by decide) (ctxOK mixed tbl_ok rfl trivial trivial) (SumOK.of trivial) (by kernel_rfl) Zpi Zuv rfl (by decide) (by decide) rfl (by decide) rfl Z26 (fun x=>by kernel_rfl)
abbrev Zpg:Shape:={ sl:=sl_25,bl:=bl_2,ts:=ts_10,pin:=0 }
abbrev Zut:Shape:={ sl:=[],bl:=bl_2,ts:=ts_11,pin:=1 }
def Z22 (x:T58):Option T57 :=
 bif (inb x.1 (List.length x.2.2.2.1)) then
 (Z24 (x.1,(IntKind.wrap .i64 ((getAt ((0:Int),(0:Int),(0:Int),false) x.2.2.2.1 (toN x.1)).2.1+(1:Int))),x.2.1,x.2.2.1,x.2.2.2.1,x.2.2.2.2.1,x.2.2.2.2.2.1,x.2.2.2.2.2.2.1,x.2.2.2.2.2.2.2)).bind fun r15 =>
 some (r15.1,r15.2.1,r15.2.2.1,r15.2.2.2.1,r15.2.2.2.2.1,r15.2.2.2.2.2.1,r15.2.2.2.2.2.2)
 else
 none
abbrev Z106:=Spec.shp Zpg Zut Z22
def Zfh:Ctx:={ tb:=mkTb T2.tbl,fx:=[(41,[],Z107)],sum:=[],nt:=17,pin:=1,nr:=true,ys:=[] }
theorem Z23:Sound Tryz.prog 120 (Z106) :=
 Sound.shp (C:=Zfh) (fn:=Tryz.f120) (by kernel_rfl) (c:=bodyOf Tryz.f120) (by kernel_rfl) (by decide) (ctxOK mixed tbl_ok rfl ⟨Z25,trivial⟩ trivial) (SumOK.of trivial) (by kernel_rfl) Zpg Zut rfl (by decide) (by decide) rfl (by decide) rfl Z22 (fun x=>by kernel_rfl)
abbrev Zpm:Shape:={ sl:=sl_26,bl:=bl_2,ts:=ts_14,pin:=0 }
abbrev Zuz:Shape:={ sl:=[],bl:=bl_2,ts:=ts_11,pin:=1 }
def Z2e (x:T60):Option T57 :=
 (Z22 (x.1.1,x.2.2.1,x.2.2.2.1,x.2.2.2.2.1,x.2.2.2.2.2.1,x.2.2.2.2.2.2.1,x.2.2.2.2.2.2.2.1,x.2.2.2.2.2.2.2.2)).bind fun r14 =>
 some (r14.1,r14.2.1,r14.2.2.1,r14.2.2.2.1,r14.2.2.2.2.1,r14.2.2.2.2.2.1,r14.2.2.2.2.2.2)
abbrev Z10c:=Spec.shp Zpm Zuz Z2e
def Zfn:Ctx:={ tb:=mkTb T2.tbl,fx:=[(120,[],Z106)],sum:=[],nt:=10,pin:=1,nr:=true,ys:=[] }
theorem Z2f:Sound Tryz.prog 64 (Z10c) :=
 Sound.shp (C:=Zfn) (fn:=Tryz.f64) (by kernel_rfl) (c:=bodyOf Tryz.f64) (by kernel_rfl) (by decide) (ctxOK mixed tbl_ok rfl ⟨Z23,trivial⟩ trivial) (SumOK.of trivial) (by kernel_rfl) Zpm Zuz rfl (by decide) (by decide) rfl (by decide) rfl Z2e (fun x=>by kernel_rfl)
abbrev Zon:Shape:={ sl:=sl_17,bl:=[],ts:=[y5],pin:=0 }
abbrev Zu0:Shape:={ sl:=sl_1,bl:=[],ts:=ts_1,pin:=0 }
def Ze (x:(T7)):Option (Bool) :=
 bif (decide (x.1 ≥ (0:Int))) then
 bif (decide (x.2.1 ≥ (0:Int))) then
 some (decide (x.2.2 ≥ (0:Int)))
 else
 some false
 else
 some false
abbrev Zzd:=Spec.shp Zon Zu0 Ze
def Zef:Ctx:={ tb:=mkTb T2.tbl,fx:=[],sum:=[],nt:=16,pin:=0,nr:=true,ys:=[] }
theorem Zf:Sound Tryz.prog 206 (Zzd) :=
 Sound.shp (C:=Zef) (fn:=Tryz.f206) (by kernel_rfl) (c:=bodyOf Tryz.f206) (by kernel_rfl) (by decide) (ctxOK mixed tbl_ok rfl trivial trivial) (SumOK.of trivial) (by kernel_rfl) Zon Zu0 rfl (by decide) (by decide) rfl (by decide) rfl Ze (fun x=>by kernel_rfl)
abbrev Zor:Shape:={ sl:=sl_25,bl:=bl_12,ts:=[(.int .i64),y42],pin:=0 }
abbrev Zu4:Shape:={ sl:=[],bl:=bl_12,ts:=[y42],pin:=1 }
def Zo (x:(Int × T46)):Option (T46) :=
 (Zad (x.2.1.2.2.2.2.2.1,x.1)).bind fun r23 =>
 (Zad (x.2.1.2.2.2.2.2.2,x.1)).bind fun r24 =>
 some ((x.2.1.1,x.2.1.2.1,x.2.1.2.2.1,x.2.1.2.2.2.1,x.2.1.2.2.2.2.1,r23.1,r24.1),x.2.2)
abbrev Zzh:=Spec.shp Zor Zu4 Zo
def Zek:Ctx:={ tb:=mkTb T2.tbl,fx:=[(164,[],Z149)],sum:=[],nt:=32,pin:=1,nr:=true,ys:=[] }
theorem Zp:Sound Tryz.prog 205 (Zzh) :=
 Sound.shp (C:=Zek) (fn:=Tryz.f205) (by kernel_rfl) (c:=bodyOf Tryz.f205) (by kernel_rfl) (by decide) (ctxOK mixed tbl_ok rfl ⟨Zah,trivial⟩ trivial) (SumOK.of trivial) (by kernel_rfl) Zor Zu4 rfl (by decide) (by decide) rfl (by decide) rfl Zo (fun x=>by kernel_rfl)
abbrev Zot:Shape:={ sl:=sl_15,bl:=bl_12,ts:=[y42],pin:=0 }
abbrev Zu6:Shape:={ sl:=sl_2,bl:=bl_12,ts:=[(.int .i64),y42],pin:=1 }
def Zs (x:(T46)):Option (Int × T46) :=
 some (x.1.2.2.2.1,(x.1.1,x.1.2.1,x.1.2.2.1,(IntKind.wrap .i64 (x.1.2.2.2.1+(1:Int))),(IntKind.wrap .i64 (x.1.2.2.2.2.1+(1:Int))),x.1.2.2.2.2.2),x.2)
abbrev Zzj:=Spec.shp Zot Zu6 Zs
def Zem:Ctx:={ tb:=mkTb T2.tbl,fx:=[],sum:=[],nt:=28,pin:=1,nr:=true,ys:=[] }
theorem Zt:Sound Tryz.prog 209 (Zzj) :=
 Sound.shp (C:=Zem) (fn:=Tryz.f209) (by kernel_rfl) (c:=bodyOf Tryz.f209) (by kernel_rfl) (by decide) (ctxOK mixed tbl_ok rfl trivial trivial) (SumOK.of trivial) (by kernel_rfl) Zot Zu6 rfl (by decide) (by decide) rfl (by decide) rfl Zs (fun x=>by kernel_rfl)
abbrev Zt0:Shape:={ sl:=[(0,(.hole y0))],bl:=[],ts:=[y0],pin:=0 }
abbrev Zyd:Shape:={ sl:=[(0,(.sl 0))],bl:=bl_14,ts:=[y0],pin:=0 }
def Z99 (x:(List Int)):Option (List Int) :=
 bif (@Nat.beq (List.length x) (0:Nat)) then
 amb (
 some ([]:List Int)) (
 bif (fits ((List.length ([]:List Int))+(List.length x))) then
 some (([]:List Int)++x)
 else
 none)
 else
 bif (fits ((List.length ([]:List Int))+(List.length x))) then
 some (([]:List Int)++x)
 else
 none
abbrev Z13p:=Spec.shp Zt0 Zyd Z99
def Zk3:Ctx:={ tb:=mkTb T2.tbl,fx:=[],sum:=[],nt:=8,pin:=0,nr:=true,ys:=[] }
theorem Z9a:Sound Tryz.prog 238 (Z13p) :=
 Sound.shp (C:=Zk3) (fn:=Tryz.f238) (by kernel_rfl) (c:=bodyOf Tryz.f238) (by kernel_rfl) (by decide) (ctxOK mixed tbl_ok rfl trivial trivial) (SumOK.of trivial) (by kernel_rfl) Zt0 Zyd rfl (by decide) (by decide) rfl (by decide) rfl Z99 (fun x=>by kernel_rfl)
abbrev Zso:Shape:={ sl:=[(0,(.one (.pr (.hole (.int .i64)) (.pr (.hole (.int .i64)) (.pr (.sl 0) (.hole (.int .i64))))))),(1,(.hole (.int .i64)))],bl:=bl_14,ts:=[(.int .i64),(.int .i64),(.int .i64),(.int .i64),y0],pin:=0 }
abbrev Zy1:Shape:={ sl:=sl_2,bl:=bl_14,ts:=[(.int .i64),y0],pin:=1 }
def Z8k (x:(Int × Int × Int × Int × List Int)):Option T3 :=
 bif (x.1 != (0:Int)) then
 some ((Int.tmod (IntKind.wrap .i64 (x.2.1+x.2.2.2.1)) x.1),x.2.2.2.2)
 else
 none
abbrev Z13d:=Spec.shp Zso Zy1 Z8k
def Zjq:Ctx:={ tb:=mkTb T2.tbl,fx:=[],sum:=[],nt:=14,pin:=1,nr:=true,ys:=[] }
theorem Z8l:Sound Tryz.prog 232 (Z13d) :=
 Sound.shp (C:=Zjq) (fn:=Tryz.f232) (by kernel_rfl) (c:=bodyOf Tryz.f232) (by kernel_rfl) (by decide) (ctxOK mixed tbl_ok rfl trivial trivial) (SumOK.of trivial) (by kernel_rfl) Zso Zy1 rfl (by decide) (by decide) rfl (by decide) rfl Z8k (fun x=>by kernel_rfl)
abbrev Zsj:Shape:={ sl:=sl_12,bl:=[],ts:=[y21,(.int .i64)],pin:=0 }
abbrev Zxw:Shape:={ sl:=sl_12,bl:=[],ts:=[y21,(.int .i64)],pin:=0 }
def Z8b (x:(T16 × Int)):Option (T16 × Int) :=
 (Z8d x.1).bind fun r25 =>
 bif (Bool.not r25) then
 some (((0:Int),(0:Int),([]:List Int),(0:Int)),(1:Int))
 else
 bif (x.1.2.2.2 == x.1.1) then
 some (((0:Int),(0:Int),([]:List Int),(0:Int)),(5:Int))
 else
 (Z99 x.1.2.2.1).bind fun r26 =>
 (Z8k (x.1.1,x.1.2.1,x.1.2.2.2,x.1.2.2.2,r26)).bind fun r27 =>
 bif (inb r27.1 (List.length r27.2)) then
 some ((x.1.1,x.1.2.1,(List.set r27.2 (toN r27.1) x.2),(IntKind.wrap .i64 (x.1.2.2.2+(1:Int)))),(0:Int))
 else
 none
abbrev Z138:=Spec.shp Zsj Zxw Z8b
def Zjk:Ctx:={ tb:=mkTb T2.tbl,fx:=[(196,[],Z139),(238,[],Z13p),(232,[2000000],Z13d)],sum:=[],nt:=38,pin:=0,nr:=true,ys:=[] }
theorem Z8c:Sound Tryz.prog 235 (Z138) :=
 Sound.shp (C:=Zjk) (fn:=Tryz.f235) (by kernel_rfl) (c:=bodyOf Tryz.f235) (by kernel_rfl) (by decide) (ctxOK mixed tbl_ok rfl ⟨Z8e,Z9a,Z8l,trivial⟩ trivial) (SumOK.of trivial) (by kernel_rfl) Zsj Zxw rfl (by decide) (by decide) rfl (by decide) rfl Z8b (fun x=>by kernel_rfl)
abbrev Zov:Shape:={ sl:=sl_15,bl:=bl_12,ts:=[y42],pin:=0 }
abbrev Zu8:Shape:={ sl:=sl_2,bl:=bl_12,ts:=[(.int .i64),y42],pin:=1 }
def Zw (x:(T46)):Option (Int × T46) :=
 (Z8b (x.1.2.2.1,x.1.2.2.2.1)).bind fun r24 =>
 some (x.1.2.2.2.1,(x.1.1,x.1.2.1,r24.1,(IntKind.wrap .i64 (x.1.2.2.2.1+(1:Int))),x.1.2.2.2.2),x.2)
abbrev Zzl:=Spec.shp Zov Zu8 Zw
def Zeo:Ctx:={ tb:=mkTb T2.tbl,fx:=[(235,[],Z138)],sum:=[],nt:=33,pin:=1,nr:=true,ys:=[] }
theorem Zx:Sound Tryz.prog 208 (Zzl) :=
 Sound.shp (C:=Zeo) (fn:=Tryz.f208) (by kernel_rfl) (c:=bodyOf Tryz.f208) (by kernel_rfl) (by decide) (ctxOK mixed tbl_ok rfl ⟨Z8c,trivial⟩ trivial) (SumOK.of trivial) (by kernel_rfl) Zov Zu8 rfl (by decide) (by decide) rfl (by decide) rfl Zw (fun x=>by kernel_rfl)
abbrev Zto:Shape:={ sl:=[(0,(.hole (.slice y5))),(1,(.hole y5))],bl:=[],ts:=[(.slice y5),y5],pin:=0 }
abbrev Zz1:Shape:={ sl:=sl_23,bl:=[],ts:=ts_12,pin:=0 }
def Zan (x:(List (T7) × T7)):Option T15 :=
 (Zap x.1).bind fun r24 =>
 bif (Bool.not r24) then
 some (([]:List T7),(1:Int))
 else
 (Zat x.2).bind fun r25 =>
 bif (Bool.not r25) then
 some (([]:List T7),(1:Int))
 else
 (Zav x.1).bind fun r26 =>
 bif (decide ((@mlook (Int × Int) (Int) (Ty.beq y4) (Ty.zero (.int .i64)) (x.2.1,x.2.2.1) r26) > (0:Int))) then
 some (([]:List T7),(7:Int))
 else
 bif ((((List.length x.1):Nat):Int) == (64:Int)) then
 some (([]:List T7),(5:Int))
 else
 (Z97 x.1).bind fun r27 =>
 bif (fits ((List.length r27)+(List.length (x.2 :: ([]:List T7))))) then
 some ((r27++(x.2 :: ([]:List T7))),(0:Int))
 else
 none
abbrev Z14d:=Spec.shp Zto Zz1 Zan
def Zl2:Ctx:={ tb:=mkTb T2.tbl,fx:=[(161,[],Z14e),(199,[],Z14g),(200,[],Z14h),(202,[],Z13o)],sum:=[],nt:=34,pin:=0,nr:=true,ys:=[] }
theorem Zao:Sound Tryz.prog 171 (Z14d) :=
 Sound.shp (C:=Zl2) (fn:=Tryz.f171) (by kernel_rfl) (c:=bodyOf Tryz.f171) (by kernel_rfl) (by decide) (ctxOK mixed tbl_ok rfl ⟨Zas,Zau,Zaw,Z98,trivial⟩ trivial) (SumOK.of trivial) (by kernel_rfl) Zto Zz1 rfl (by decide) (by decide) rfl (by decide) rfl Zan (fun x=>by kernel_rfl)
end
end Go.Proofs.YthdlpkdojipfhaaGreat.VX.VxM_M

