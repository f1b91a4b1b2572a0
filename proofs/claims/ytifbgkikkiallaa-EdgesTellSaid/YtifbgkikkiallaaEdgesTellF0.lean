/- Laid for the law EdgesTell. -/
import Derived.Test.YtifbgkikkiallaaEdgesTellE15
import Derived.Test.YtifbgkikkiallaaEdgesTellE18
import Derived.Test.YtifbgkikkiallaaEdgesTellE19
set_option linter.unusedVariables false
set_option maxRecDepth 100000
namespace Go.Proofs.Ytifbgkikkiallaa.VX.VxE_E
open Go.Proofs Go.Proofs.Ytifbgkikkiallaa.VX.T2
noncomputable section
theorem mixed:Try.prog.follows .mixedOrders=true:=by kernel_rfl
abbrev T0:=Int × Bool
abbrev T1:=Int × List Int
abbrev T2:=Int × (Int × Int)
abbrev T3:=(Int × Int) × Int
abbrev T4:=List Int × List Int × Int × Int
abbrev T5:=Int × (Int × T2)
abbrev T6:=(Int × T0) × Int
abbrev T7:=Int × List Int × List Int × Int × List (T3) × List (Int × Int) × List (Int × Int)
abbrev T8:=Bool × List Int × List Int × Int × List (T3) × List (Int × Int) × List (Int × Int)
abbrev T9:=List (T5) × Int
abbrev T10:=List Int × List (T5)
abbrev T11:=List Int × List (T5) × Int
abbrev T12:=Int × Int × Int × List (T5) × Int × Int
abbrev T13:=T5 × List Int × List Int × Int × List (T3) × List (Int × Int) × List (Int × Int)
abbrev T14:=List (T5) × T5 × List Int × List Int × Int × List (T3) × List (Int × Int) × List (Int × Int)
abbrev y0:Ty:=.slice (.int .i64)
abbrev y1:Ty:=.arr 8 (.int .i64)
abbrev y2:Ty:=.pair (.int .i64) .bool
abbrev y3:Ty:=.pair (.int .i64) (.int .i64)
abbrev y4:Ty:=.pair (.int .i64) y3
abbrev y5:Ty:=.pair y3 (.int .i64)
abbrev y6:Ty:=.pair (.int .i64) y2
abbrev y7:Ty:=.pair (.int .i64) y0
abbrev y8:Ty:=.pair (.int .i64) y4
abbrev y9:Ty:=.pair y6 (.int .i64)
abbrev y10:Ty:=.pair (.int .i64) y8
abbrev y11:Ty:=.slice y10
abbrev bl_0:List BPat:=[.var (.pr (.hole y0) (.pr (.mp 1) (.pr (.hole y1) (.pr (.hole (.int .i64)) (.pr (.mp 2) (.pr (.mp 3) (.mp 4))))))),.mp y3 (.int .i64),.mp (.int .i64) (.int .i64),.mp (.int .i64) (.int .i64),.fm [1,3,5,6,7,11,12,14,15] (.cons (.fn 55 .nil (.cons (.ptr 5 []) .nil)) (.cons (.fn 56 .nil (.cons (.ptr 5 []) .nil)) (.cons (.fn 58 .nil (.cons (.ptr 5 []) .nil)) (.cons (.fn 59 .nil (.cons (.ptr 5 []) .nil)) (.cons (.fn 60 .nil (.cons (.ptr 5 []) .nil)) (.cons (.fn 61 .nil (.cons (.ptr 6 []) .nil)) (.cons (.fn 62 .nil (.cons (.ptr 6 []) .nil)) (.cons (.fn 63 .nil (.cons (.ptr 5 []) .nil)) (.cons (.fn 64 .nil (.cons (.ptr 5 []) .nil)) .nil))))))))),.var (.ptr 0 []),.var (.fn 53 .nil (.cons (.ptr 5 []) .nil))]
abbrev bl_1:List BPat:=[.var (.ptr 1 []),.var (.pr (.hole y0) (.pr (.mp 2) (.pr (.hole y1) (.pr (.hole (.int .i64)) (.pr (.mp 3) (.pr (.mp 4) (.mp 5))))))),.mp y3 (.int .i64),.mp (.int .i64) (.int .i64),.mp (.int .i64) (.int .i64),.fm [1,3,5,6,7,11,12,14,15] (.cons (.fn 55 .nil (.cons (.ptr 0 []) .nil)) (.cons (.fn 56 .nil (.cons (.ptr 0 []) .nil)) (.cons (.fn 58 .nil (.cons (.ptr 0 []) .nil)) (.cons (.fn 59 .nil (.cons (.ptr 0 []) .nil)) (.cons (.fn 60 .nil (.cons (.ptr 0 []) .nil)) (.cons (.fn 61 .nil (.cons (.ptr 6 []) .nil)) (.cons (.fn 62 .nil (.cons (.ptr 6 []) .nil)) (.cons (.fn 63 .nil (.cons (.ptr 0 []) .nil)) (.cons (.fn 64 .nil (.cons (.ptr 0 []) .nil)) .nil))))))))),.var (.fn 53 .nil (.cons (.ptr 0 []) .nil))]
abbrev bl_2:List BPat:=[.var (.fn 53 .nil (.cons (.ptr 1 []) .nil)),.var (.ptr 2 []),.var (.pr (.hole y0) (.pr (.mp 3) (.pr (.hole y1) (.pr (.hole (.int .i64)) (.pr (.mp 4) (.pr (.mp 5) (.mp 6))))))),.mp y3 (.int .i64),.mp (.int .i64) (.int .i64),.mp (.int .i64) (.int .i64),.fm [1,3,5,6,7,11,12,14,15] (.cons (.fn 55 .nil (.cons (.ptr 1 []) .nil)) (.cons (.fn 56 .nil (.cons (.ptr 1 []) .nil)) (.cons (.fn 58 .nil (.cons (.ptr 1 []) .nil)) (.cons (.fn 59 .nil (.cons (.ptr 1 []) .nil)) (.cons (.fn 60 .nil (.cons (.ptr 1 []) .nil)) (.cons (.fn 61 .nil (.cons (.ptr 0 []) .nil)) (.cons (.fn 62 .nil (.cons (.ptr 0 []) .nil)) (.cons (.fn 63 .nil (.cons (.ptr 1 []) .nil)) (.cons (.fn 64 .nil (.cons (.ptr 1 []) .nil)) .nil)))))))))]
abbrev bl_3:List BPat:=[.var (.pr (.hole y0) (.pr (.mp 1) (.pr (.mp 2) (.pr (.mp 3) (.pr (.mp 4) (.mp 5)))))),.mp y6 (.int .i64),.mp (.int .i64) (.int .i64),.mp (.int .i64) (.int .i64),.mo (.int .i64) (.int .i64),.mp (.int .i64) (.int .i64)]
abbrev bl_4:List BPat:=[.lpt 458764 [12] (.cons (.ptr 4 []) .nil),.var (.ptr 5 []),.var (.hole y10),.var (.hole (.int .i64)),.var (.sl 11),.var (.pr (.hole y0) (.pr (.mp 6) (.pr (.mp 7) (.pr (.mp 8) (.pr (.mp 9) (.mp 10)))))),.mp y6 (.int .i64),.mp (.int .i64) (.int .i64),.mp (.int .i64) (.int .i64),.mo (.int .i64) (.int .i64),.mp (.int .i64) (.int .i64),.row (.int .i64)]
abbrev bl_5:List BPat:=[.lp 458764 [12] (.cons (.ptr 4 []) .nil),.var (.ptr 5 []),.var (.hole y10),.var (.hole (.int .i64)),.var (.sl 11),.var (.pr (.hole y0) (.pr (.mp 6) (.pr (.mp 7) (.pr (.mp 8) (.pr (.mp 9) (.mp 10)))))),.mp y6 (.int .i64),.mp (.int .i64) (.int .i64),.mp (.int .i64) (.int .i64),.mo (.int .i64) (.int .i64),.mp (.int .i64) (.int .i64),.row (.int .i64)]
abbrev ts_0:List Ty:=[(.int .i64)]
abbrev ts_1:List Ty:=[y11,y10,y0,y1,(.int .i64),(.slice y5),(.slice y3),(.slice y3)]
abbrev ts_2:List Ty:=[.bool,y0,y1,(.int .i64),(.slice y5),(.slice y3),(.slice y3)]
abbrev ts_3:List Ty:=[(.int .i64),y0,y1,(.int .i64),(.slice y5),(.slice y3),(.slice y3)]
abbrev ts_4:List Ty:=[y10,y0,y1,(.int .i64),(.slice y5),(.slice y3),(.slice y3)]
abbrev ts_5:List Ty:=[y0,(.slice y9),(.slice y3),(.slice y3),(.slice y7),(.slice y3)]
abbrev ts_6:List Ty:=[(.int .i64),y10,y0,(.slice y9),(.slice y3),(.slice y3),(.slice y7),(.slice y3)]
abbrev ts_7:List Ty:=[(.int .i64),y10,(.int .i64),y0,(.slice y9),(.slice y3),(.slice y3),(.slice y7),(.slice y3),y0]
abbrev ts_8:List Ty:=[y10,(.int .i64),y0,(.slice y9),(.slice y3),(.slice y3),(.slice y7),(.slice y3),y0]
abbrev ts_9:List Ty:=[y0,y11,(.int .i64)]
abbrev ts_10:List Ty:=[(.int .i64),(.int .i64),(.int .i64),y11,(.int .i64),(.int .i64)]
abbrev sl_0:List (Nat × Pat):=[(0,(.hole .bool))]
abbrev sl_1:List (Nat × Pat):=[(0,(.hole (.int .i64)))]
abbrev sl_2:List (Nat × Pat):=[(0,(.ptr 0 [])),(1,(.hole y11)),(2,(.hole y10))]
abbrev sl_3:List (Nat × Pat):=[(0,(.hole y10)),(1,(.ptr 0 []))]
abbrev sl_4:List (Nat × Pat):=[(0,(.ptr 0 [])),(1,(.hole (.int .i64))),(2,(.hole y10))]
abbrev sl_5:List (Nat × Pat):=[(0,(.hole y0)),(1,(.hole y11))]
abbrev sl_6:List (Nat × Pat):=[(0,(.hole y0)),(1,(.hole y11)),(2,(.hole (.int .i64)))]
abbrev sl_7:List (Nat × Pat):=[(0,(.hole y11)),(1,(.hole (.int .i64)))]
abbrev sl_8:List (Nat × Pat):=[(0,(.hole y11)),(1,(.hole (.int .i64))),(2,(.hole (.int .i64))),(3,(.hole (.int .i64)))]
abbrev Z70:Shape:={ sl:=[(0,(.hole y11))],bl:=[],ts:=[y11],pin:=0 }
abbrev Z8j:Shape:={ sl:=[(0,(.hole y11))],bl:=[],ts:=[y11],pin:=0 }
def Zi (x:(List (T5))):Option (List (T5)) :=
 bif (sub3 (0:Int) (Min.min (((List.length x):Nat):Int) (120:Int)) (List.length x)) then
 some (cut x (toN (0:Int)) ((toN (Min.min (((List.length x):Nat):Int) (120:Int))) - (toN (0:Int))))
 else
 none
abbrev Za1:=Spec.shp Z70 Z8j Zi
def Z4c:Ctx:={ tb:=mkTb T2.tbl,fx:=[],sum:=[],nt:=8,pin:=0,nr:=true,ys:=[] }
theorem Zj:Sound Try.prog 5 (Za1) :=
 Sound.shp (C:=Z4c) (fn:=Try.f5) (by kernel_rfl) (c:=bodyOf Try.f5) (by kernel_rfl) (by decide) (ctxOK mixed tbl_ok rfl trivial trivial) (SumOK.of trivial) (by kernel_rfl) Z70 Z8j rfl (by decide) (by decide) rfl (by decide) rfl Zi (fun x=>by kernel_rfl)
abbrev Z7q:Shape:={ sl:=[(0,(.hole (.int .i64))),(1,(.hole (.int .i64))),(2,(.hole (.int .i64)))],bl:=[],ts:=[(.int .i64),(.int .i64),(.int .i64)],pin:=0 }
abbrev Z99:Shape:={ sl:=sl_0,bl:=[],ts:=[.bool],pin:=0 }
def Z1y (x:(Int × Int × Int)):Option (Bool) :=
 bif (decide (x.1 ≥ x.2.1)) then
 some (decide (x.1 ≤ x.2.2))
 else
 some false
abbrev Zar:=Spec.shp Z7q Z99 Z1y
def Z5d:Ctx:={ tb:=mkTb T2.tbl,fx:=[],sum:=[],nt:=15,pin:=0,nr:=true,ys:=[] }
theorem Z1z:Sound Try.prog 34 (Zar) :=
 Sound.shp (C:=Z5d) (fn:=Try.f34) (by kernel_rfl) (c:=bodyOf Try.f34) (by kernel_rfl) (by decide) (ctxOK mixed tbl_ok rfl trivial trivial) (SumOK.of trivial) (by kernel_rfl) Z7q Z99 rfl (by decide) (by decide) rfl (by decide) rfl Z1y (fun x=>by kernel_rfl)
abbrev Z7p:Shape:={ sl:=sl_1,bl:=[],ts:=ts_0,pin:=0 }
abbrev Z98:Shape:={ sl:=sl_0,bl:=[],ts:=[.bool],pin:=0 }
def Z1v (x:(Int)):Option (Bool) :=
 (Z1y (x,(Int.negSucc 0),(3:Int))).bind fun r9 =>
 some (Bool.not r9)
abbrev Zaq:=Spec.shp Z7p Z98 Z1v
def Z5b:Ctx:={ tb:=mkTb T2.tbl,fx:=[(34,[],Zar)],sum:=[],nt:=6,pin:=0,nr:=true,ys:=[] }
theorem Z1w:Sound Try.prog 33 (Zaq) :=
 Sound.shp (C:=Z5b) (fn:=Try.f33) (by kernel_rfl) (c:=bodyOf Try.f33) (by kernel_rfl) (by decide) (ctxOK mixed tbl_ok rfl ⟨Z1z,trivial⟩ trivial) (SumOK.of trivial) (by kernel_rfl) Z7p Z98 rfl (by decide) (by decide) rfl (by decide) rfl Z1v (fun x=>by kernel_rfl)
abbrev Z6p:Shape:={ sl:=[(0,(.hole y0)),(1,(.fn 33 .nil .nil)),(7,(.hole (.int .i64))),(8,(.hole (.int .i64)))],bl:=[],ts:=[y0,(.int .i64),(.int .i64)],pin:=0 }
abbrev Z6a:List (ETag × Shape):=[(.ret,{ sl:=[(4,(.hole (.int .i64)))],bl:=[],ts:=ts_0,pin:=0 }),(.exit 0,{ sl:=[],bl:=[],ts:=[],pin:=0 })]
def Z3u (x:(List Int × Int × Int)):Option ((List Int × Int × Int) ⊕ ((Int) ⊕ Unit)) :=
 bif (decide (x.2.2 < x.2.1)) then
 bif (inb x.2.2 (List.length x.1)) then
 (Z1v (getAt (0:Int) x.1 (toN x.2.2))).bind fun r8 =>
 bif r8 then
 some (.inr (.inl x.2.2))
 else
 some (.inl (x.1,x.2.1,(IntKind.wrap .i64 (x.2.2+(1:Int)))))
 else
 none
 else
 some (.inr (.inr ()))
def Z59:Ctx:={ tb:=mkTb T2.tbl,fx:=[(33,[],Zaq)],sum:=[],nt:=19,pin:=0,nr:=true,ys:=[] }
theorem Z3v:CSound Try.prog ⟨19,0,true⟩ (.loop (loopOf 3 Try.f52)) (Yb1 Z6p Z6a (loop Z3u)) :=
 Y8e (C:=Z59) (ctxOK mixed tbl_ok rfl ⟨Z1w,trivial⟩ trivial) (SumOK.of trivial) Z6p Z6a rfl rfl Z3u (fun x=>by kernel_rfl)
abbrev Z7n:Shape:={ sl:=[(0,(.hole y0)),(1,(.fn 33 .nil .nil))],bl:=[],ts:=[y0],pin:=0 }
abbrev Z96:Shape:={ sl:=sl_1,bl:=[],ts:=ts_0,pin:=0 }
def Z1s (x:(List Int)):Option (Int) :=
 (loop Z3u (x,(((List.length x):Nat):Int),(0:Int))).bind fun r7 =>
 match r7 with
 | .inl y8 =>
 some y8
 | .inr y8 =>
 some (Int.negSucc 0)
abbrev Zao:=Spec.shp Z7n Z96 Z1s
def Z58:Ctx:={ tb:=mkTb T2.tbl,fx:=[(33,[],Zaq)],sum:=[(0,3,Yb1 Z6p Z6a (loop Z3u))],nt:=19,pin:=0,nr:=true,ys:=[] }
theorem Z1t:Sound Try.prog 52 (Zao) :=
 Sound.shp (C:=Z58) (fn:=Try.f52) (by kernel_rfl) (c:=bodyOf Try.f52) (by kernel_rfl) (by decide) (ctxOK mixed tbl_ok rfl ⟨Z1w,trivial⟩ trivial) (SumOK.of ⟨(Yb2 (d:=.loop (loopOf 3 Try.f52)) (by kernel_rfl) Z3v),trivial⟩) (by kernel_rfl) Z7n Z96 rfl (by decide) (by decide) rfl (by decide) rfl Z1s (fun x=>by kernel_rfl)
abbrev Z7m:Shape:={ sl:=[(0,(.hole y0)),(1,(.fn 33 .nil .nil))],bl:=[],ts:=[y0],pin:=0 }
abbrev Z95:Shape:={ sl:=sl_0,bl:=[],ts:=[.bool],pin:=0 }
def Z1q (x:(List Int)):Option (Bool) :=
 (Z1s x).bind fun r6 =>
 some (decide (r6 ≥ (0:Int)))
abbrev Zan:=Spec.shp Z7m Z95 Z1q
def Z57:Ctx:={ tb:=mkTb T2.tbl,fx:=[(52,[33],Zao)],sum:=[],nt:=9,pin:=0,nr:=true,ys:=[] }
theorem Z1r:Sound Try.prog 32 (Zan) :=
 Sound.shp (C:=Z57) (fn:=Try.f32) (by kernel_rfl) (c:=bodyOf Try.f32) (by kernel_rfl) (by decide) (ctxOK mixed tbl_ok rfl ⟨Z1t,trivial⟩ trivial) (SumOK.of trivial) (by kernel_rfl) Z7m Z95 rfl (by decide) (by decide) rfl (by decide) rfl Z1q (fun x=>by kernel_rfl)
abbrev Z89:Shape:={ sl:=[],bl:=[],ts:=[],pin:=0 }
abbrev Z9s:Shape:={ sl:=[(0,(.mp 0))],bl:=[.mp (.int .i64) (.int .i64)],ts:=[(.slice y3)],pin:=0 }
def Z32 (x:Unit):Option (List (Int × Int)) :=
 some (@mput (Int) (Int) (Ty.beq (.int .i64)) (15:Int) (13:Int) (@mput (Int) (Int) (Ty.beq (.int .i64)) (11:Int) (10:Int) (@mput (Int) (Int) (Ty.beq (.int .i64)) (9:Int) (8:Int) (@mput (Int) (Int) (Ty.beq (.int .i64)) (6:Int) (4:Int) (@mput (Int) (Int) (Ty.beq (.int .i64)) (5:Int) (4:Int) (@mput (Int) (Int) (Ty.beq (.int .i64)) (3:Int) (2:Int) ([]:List (Int × Int))))))))
abbrev Zba:=Spec.shp Z89 Z9s Z32
def Z5w:Ctx:={ tb:=mkTb T2.tbl,fx:=[],sum:=[],nt:=3,pin:=0,nr:=true,ys:=[] }
theorem Z33:Sound Try.prog 35 (Zba) :=
 Sound.shp (C:=Z5w) (fn:=Try.f35) (by kernel_rfl) (c:=bodyOf Try.f35) (by kernel_rfl) (by decide) (ctxOK mixed tbl_ok rfl trivial trivial) (SumOK.of trivial) (by kernel_rfl) Z89 Z9s rfl (by decide) (by decide) rfl (by decide) rfl Z32 (fun x=>by kernel_rfl)
abbrev Z7y:Shape:={ sl:=[(0,(.ptr 0 []))],bl:=[.var (.pr (.hole y0) (.pr (.mp 1) (.pr (.hole y1) (.pr (.hole (.int .i64)) (.pr (.mp 2) (.pr (.mp 3) .nilm)))))),.mp y3 (.int .i64),.mp (.int .i64) (.int .i64),.mp (.int .i64) (.int .i64)],ts:=[y0,y1,(.int .i64),(.slice y5),(.slice y3),(.slice y3)],pin:=0 }
abbrev Z9h:Shape:={ sl:=[(0,(.mp 4))],bl:=[.var (.pr (.hole y0) (.pr (.mp 1) (.pr (.hole y1) (.pr (.hole (.int .i64)) (.pr (.mp 2) (.pr (.mp 3) .nilm)))))),.mp y3 (.int .i64),.mp (.int .i64) (.int .i64),.mp (.int .i64) (.int .i64),.fm [1,3,5,6,7,11,12,14,15] (.cons (.fn 55 .nil (.cons (.ptr 5 []) .nil)) (.cons (.fn 56 .nil (.cons (.ptr 5 []) .nil)) (.cons (.fn 58 .nil (.cons (.ptr 5 []) .nil)) (.cons (.fn 59 .nil (.cons (.ptr 5 []) .nil)) (.cons (.fn 60 .nil (.cons (.ptr 5 []) .nil)) (.cons (.fn 61 .nil (.cons (.ptr 6 []) .nil)) (.cons (.fn 62 .nil (.cons (.ptr 6 []) .nil)) (.cons (.fn 63 .nil (.cons (.ptr 5 []) .nil)) (.cons (.fn 64 .nil (.cons (.ptr 5 []) .nil)) .nil))))))))),.var (.ptr 0 []),.var (.fn 53 .nil (.cons (.ptr 5 []) .nil))],ts:=[y0,y1,(.int .i64),(.slice y5),(.slice y3),(.slice y3)],pin:=4 }
def Z2f (x:(List Int × List Int × Int × List (T3) × List (Int × Int) × List (Int × Int))):Option (List Int × List Int × Int × List (T3) × List (Int × Int) × List (Int × Int)) :=
 some (x.1,x.2.1,x.2.2.1,x.2.2.2.1,x.2.2.2.2.1,x.2.2.2.2.2)
abbrev Zaz:=Spec.shp Z7y Z9h Z2f
def Z5l:Ctx:={ tb:=mkTb T2.tbl,fx:=[],sum:=[],nt:=16,pin:=4,nr:=true,ys:=[] }
theorem Z31:Sound Try.prog 36 (Zaz) :=
 Sound.shp (C:=Z5l) (fn:=Try.f36) (by kernel_rfl) (c:=bodyOf Try.f36) (by kernel_rfl) (by decide) (ctxOK mixed tbl_ok rfl trivial trivial) (SumOK.of trivial) (by kernel_rfl) Z7y Z9h rfl (by decide) (by decide) rfl (by decide) rfl Z2f (fun x=>by kernel_rfl)
abbrev Z7s:Shape:={ sl:=sl_2,bl:=bl_0,ts:=ts_1,pin:=0 }
abbrev Z9b:Shape:={ sl:=sl_0,bl:=bl_0,ts:=ts_2,pin:=7 }
def Z22 (x:T14):Option T8 :=
 bif (inb x.2.1.1 8) then
 bif (decide ((getAt (0:Int) x.2.2.2.1 (toN x.2.1.1)) > (0:Int))) then
 some (false,x.2.2.1,x.2.2.2.1,x.2.2.2.2.1,x.2.2.2.2.2.1,x.2.2.2.2.2.2.1,x.2.2.2.2.2.2.2)
 else
 bif (x.2.1.2.2.1 != (0:Int)) then
 some (false,x.2.2.1,x.2.2.2.1,x.2.2.2.2.1,x.2.2.2.2.2.1,x.2.2.2.2.2.2.1,x.2.2.2.2.2.2.2)
 else
 bif (x.2.1.2.2.2.1 != (0:Int)) then
 some (false,x.2.2.1,x.2.2.2.1,x.2.2.2.2.1,x.2.2.2.2.2.1,x.2.2.2.2.2.2.1,x.2.2.2.2.2.2.2)
 else
 bif (x.2.1.1 == (0:Int)) then
 some ((x.2.1.2.2.2.2 == (Int.negSucc 0)),x.2.2.1,x.2.2.2.1,x.2.2.2.2.1,x.2.2.2.2.2.1,x.2.2.2.2.2.2.1,x.2.2.2.2.2.2.2)
 else
 bif (x.2.1.2.2.2.2 != (Int.negSucc 0)) then
 bif (inb x.2.1.2.2.2.2 (List.length x.1)) then
 bif ((getAt ((0:Int),(0:Int),(0:Int),(0:Int),(0:Int)) x.1 (toN x.2.1.2.2.2.2)).2.1 == (1:Int)) then
 bif (inb x.2.1.2.2.2.2 (List.length x.1)) then
 some (((getAt ((0:Int),(0:Int),(0:Int),(0:Int),(0:Int)) x.1 (toN x.2.1.2.2.2.2)).2.2.1 == x.2.1.1),x.2.2.1,x.2.2.2.1,x.2.2.2.2.1,x.2.2.2.2.2.1,x.2.2.2.2.2.2.1,x.2.2.2.2.2.2.2)
 else
 none
 else
 some (false,x.2.2.1,x.2.2.2.1,x.2.2.2.2.1,x.2.2.2.2.2.1,x.2.2.2.2.2.2.1,x.2.2.2.2.2.2.2)
 else
 none
 else
 some (false,x.2.2.1,x.2.2.2.1,x.2.2.2.2.1,x.2.2.2.2.2.1,x.2.2.2.2.2.2.1,x.2.2.2.2.2.2.2)
 else
 none
abbrev Zat:=Spec.shp Z7s Z9b Z22
def Z5f:Ctx:={ tb:=mkTb T2.tbl,fx:=[],sum:=[],nt:=54,pin:=7,nr:=true,ys:=[] }
theorem Z23:Sound Try.prog 86 (Zat) :=
 Sound.shp (C:=Z5f) (fn:=Try.f86) (by kernel_rfl) (c:=bodyOf Try.f86) (by kernel_rfl) (by decide) (ctxOK mixed tbl_ok rfl trivial trivial) (SumOK.of trivial) (by kernel_rfl) Z7s Z9b rfl (by decide) (by decide) rfl (by decide) rfl Z22 (fun x=>by kernel_rfl)
abbrev Z7v:Shape:={ sl:=[(0,(.ptr 0 [])),(1,(.hole (.int .i64)))],bl:=bl_0,ts:=ts_3,pin:=0 }
abbrev Z9e:Shape:={ sl:=sl_1,bl:=bl_0,ts:=ts_3,pin:=7 }
def Z29 (x:T7):Option T7 :=
 (Z1y (x.1,(2:Int),(7:Int))).bind fun r15 =>
 bif r15 then
 some ((((List.length x.2.1):Nat):Int),x.2.1,x.2.2.1,x.2.2.2.1,x.2.2.2.2.1,x.2.2.2.2.2.1,x.2.2.2.2.2.2)
 else
 (Z1y (x.1,(10:Int),(15:Int))).bind fun r16 =>
 bif r16 then
 some ((2:Int),x.2.1,x.2.2.1,x.2.2.2.1,x.2.2.2.2.1,x.2.2.2.2.2.1,x.2.2.2.2.2.2)
 else
 (Z1y (x.1,(8:Int),(17:Int))).bind fun r17 =>
 bif r17 then
 some ((4:Int),x.2.1,x.2.2.1,x.2.2.2.1,x.2.2.2.2.1,x.2.2.2.2.2.1,x.2.2.2.2.2.2)
 else
 some ((1:Int),x.2.1,x.2.2.1,x.2.2.2.1,x.2.2.2.2.1,x.2.2.2.2.2.1,x.2.2.2.2.2.2)
abbrev Zaw:=Spec.shp Z7v Z9e Z29
def Z5i:Ctx:={ tb:=mkTb T2.tbl,fx:=[(34,[],Zar)],sum:=[],nt:=19,pin:=7,nr:=true,ys:=[] }
theorem Z2a:Sound Try.prog 87 (Zaw) :=
 Sound.shp (C:=Z5i) (fn:=Try.f87) (by kernel_rfl) (c:=bodyOf Try.f87) (by kernel_rfl) (by decide) (ctxOK mixed tbl_ok rfl ⟨Z1z,trivial⟩ trivial) (SumOK.of trivial) (by kernel_rfl) Z7v Z9e rfl (by decide) (by decide) rfl (by decide) rfl Z29 (fun x=>by kernel_rfl)
abbrev Z7r:Shape:={ sl:=sl_2,bl:=bl_0,ts:=ts_1,pin:=0 }
abbrev Z9a:Shape:={ sl:=sl_0,bl:=bl_0,ts:=ts_2,pin:=7 }
def Z20 (x:T14):Option T8 :=
 bif (Bool.not (@mhas (Int) (Int) (Ty.beq (.int .i64)) x.2.1.2.1 x.2.2.2.2.2.2.2)) then
 some ((x.2.1.2.2.2.2 == (Int.negSucc 0)),x.2.2.1,x.2.2.2.1,x.2.2.2.2.1,x.2.2.2.2.2.1,x.2.2.2.2.2.2.1,x.2.2.2.2.2.2.2)
 else
 bif (x.2.1.2.2.2.2 == (Int.negSucc 0)) then
 some (false,x.2.2.1,x.2.2.2.1,x.2.2.2.2.1,x.2.2.2.2.2.1,x.2.2.2.2.2.2.1,x.2.2.2.2.2.2.2)
 else
 bif (inb x.2.1.1 8) then
 bif (x.2.1.2.2.2.2 != (IntKind.wrap .i64 ((getAt (0:Int) x.2.2.2.1 (toN x.2.1.1)) - (1:Int)))) then
 some (false,x.2.2.1,x.2.2.2.1,x.2.2.2.2.1,x.2.2.2.2.2.1,x.2.2.2.2.2.2.1,x.2.2.2.2.2.2.2)
 else
 bif (inb x.2.1.2.2.2.2 (List.length x.1)) then
 bif ((getAt ((0:Int),(0:Int),(0:Int),(0:Int),(0:Int)) x.1 (toN x.2.1.2.2.2.2)).2.1 == (@mlook (Int) (Int) (Ty.beq (.int .i64)) (Ty.zero (.int .i64)) x.2.1.2.1 x.2.2.2.2.2.2.2)) then
 bif ((getAt ((0:Int),(0:Int),(0:Int),(0:Int),(0:Int)) x.1 (toN x.2.1.2.2.2.2)).2.2.1 == x.2.1.2.2.1) then
 some (true,x.2.2.1,x.2.2.2.1,x.2.2.2.2.1,x.2.2.2.2.2.1,x.2.2.2.2.2.2.1,x.2.2.2.2.2.2.2)
 else
 bif ((getAt ((0:Int),(0:Int),(0:Int),(0:Int),(0:Int)) x.1 (toN x.2.1.2.2.2.2)).2.1 == (8:Int)) then
 some ((decide (x.2.1.2.1 ≤ (6:Int))),x.2.2.1,x.2.2.2.1,x.2.2.2.2.1,x.2.2.2.2.2.1,x.2.2.2.2.2.2.1,x.2.2.2.2.2.2.2)
 else
 some (false,x.2.2.1,x.2.2.2.1,x.2.2.2.2.1,x.2.2.2.2.2.1,x.2.2.2.2.2.2.1,x.2.2.2.2.2.2.2)
 else
 bif ((getAt ((0:Int),(0:Int),(0:Int),(0:Int),(0:Int)) x.1 (toN x.2.1.2.2.2.2)).2.1 == (8:Int)) then
 some ((decide (x.2.1.2.1 ≤ (6:Int))),x.2.2.1,x.2.2.2.1,x.2.2.2.2.1,x.2.2.2.2.2.1,x.2.2.2.2.2.2.1,x.2.2.2.2.2.2.2)
 else
 some (false,x.2.2.1,x.2.2.2.1,x.2.2.2.2.1,x.2.2.2.2.2.1,x.2.2.2.2.2.2.1,x.2.2.2.2.2.2.2)
 else
 none
 else
 none
abbrev Zas:=Spec.shp Z7r Z9a Z20
def Z5e:Ctx:={ tb:=mkTb T2.tbl,fx:=[],sum:=[],nt:=67,pin:=7,nr:=true,ys:=[] }
theorem Z21:Sound Try.prog 88 (Zas) :=
 Sound.shp (C:=Z5e) (fn:=Try.f88) (by kernel_rfl) (c:=bodyOf Try.f88) (by kernel_rfl) (by decide) (ctxOK mixed tbl_ok rfl trivial trivial) (SumOK.of trivial) (by kernel_rfl) Z7r Z9a rfl (by decide) (by decide) rfl (by decide) rfl Z20 (fun x=>by kernel_rfl)
abbrev Z81:Shape:={ sl:=sl_3,bl:=bl_1,ts:=ts_4,pin:=0 }
abbrev Z9k:Shape:={ sl:=sl_0,bl:=bl_1,ts:=ts_2,pin:=7 }
def Z2k (x:T13):Option T8 :=
 some ((x.1.2.2.1 == x.2.2.2.1),x.2.1,x.2.2.1,x.2.2.2.1,x.2.2.2.2.1,x.2.2.2.2.2.1,x.2.2.2.2.2.2)
abbrev Zb2:=Spec.shp Z81 Z9k Z2k
def Z5o:Ctx:={ tb:=mkTb T2.tbl,fx:=[],sum:=[],nt:=11,pin:=7,nr:=true,ys:=[] }
theorem Z2l:Sound Try.prog 55 (Zb2) :=
 Sound.shp (C:=Z5o) (fn:=Try.f55) (by kernel_rfl) (c:=bodyOf Try.f55) (by kernel_rfl) (by decide) (ctxOK mixed tbl_ok rfl trivial trivial) (SumOK.of trivial) (by kernel_rfl) Z81 Z9k rfl (by decide) (by decide) rfl (by decide) rfl Z2k (fun x=>by kernel_rfl)
theorem Z2m:Sound Try.prog 55 (Spec.shpR Z81 Z9k Z2k) :=
 Sound.shpR (fun x y h=>by have h:=Option.some.inj h; subst h; rfl) Z2l
abbrev Z7w:Shape:={ sl:=[(0,(.ptr 0 [])),(1,(.hole y10))],bl:=bl_0,ts:=ts_4,pin:=0 }
abbrev Z9f:Shape:={ sl:=sl_0,bl:=bl_0,ts:=ts_2,pin:=7 }
def Z2b (x:T13):Option T8 :=
 bif (inb x.1.2.2.1 (List.length x.2.1)) then
 some ((decide ((getAt (0:Int) x.2.1 (toN x.1.2.2.1)) ≥ (0:Int))),x.2.1,x.2.2.1,x.2.2.2.1,x.2.2.2.2.1,x.2.2.2.2.2.1,x.2.2.2.2.2.2)
 else
 none
abbrev Zax:=Spec.shp Z7w Z9f Z2b
def Z5j:Ctx:={ tb:=mkTb T2.tbl,fx:=[],sum:=[],nt:=14,pin:=7,nr:=true,ys:=[] }
theorem Z2c:Sound Try.prog 57 (Zax) :=
 Sound.shp (C:=Z5j) (fn:=Try.f57) (by kernel_rfl) (c:=bodyOf Try.f57) (by kernel_rfl) (by decide) (ctxOK mixed tbl_ok rfl trivial trivial) (SumOK.of trivial) (by kernel_rfl) Z7w Z9f rfl (by decide) (by decide) rfl (by decide) rfl Z2b (fun x=>by kernel_rfl)
abbrev Z7u:Shape:={ sl:=sl_4,bl:=bl_0,ts:=[(.int .i64),y10,y0,y1,(.int .i64),(.slice y5),(.slice y3),(.slice y3)],pin:=0 }
abbrev Z9d:Shape:={ sl:=sl_1,bl:=bl_0,ts:=ts_3,pin:=7 }
def Z26 (x:(Int × T5 × List Int × List Int × Int × List (T3) × List (Int × Int) × List (Int × Int))):Option T7 :=
 some ((@mlook (Int × Int) (Int) (Ty.beq y3) (Ty.zero (.int .i64)) (x.1,x.2.1.2.2.1) x.2.2.2.2.2.1),x.2.2.1,x.2.2.2.1,x.2.2.2.2.1,x.2.2.2.2.2.1,x.2.2.2.2.2.2.1,x.2.2.2.2.2.2.2)
abbrev Zav:=Spec.shp Z7u Z9d Z26
def Z5h:Ctx:={ tb:=mkTb T2.tbl,fx:=[],sum:=[],nt:=16,pin:=7,nr:=true,ys:=[] }
theorem Z27:Sound Try.prog 54 (Zav) :=
 Sound.shp (C:=Z5h) (fn:=Try.f54) (by kernel_rfl) (c:=bodyOf Try.f54) (by kernel_rfl) (by decide) (ctxOK mixed tbl_ok rfl trivial trivial) (SumOK.of trivial) (by kernel_rfl) Z7u Z9d rfl (by decide) (by decide) rfl (by decide) rfl Z26 (fun x=>by kernel_rfl)
theorem Z28:Sound Try.prog 54 (Spec.shpR Z7u Z9d Z26) :=
 Sound.shpR (fun x y h=>by have h:=Option.some.inj h; subst h; rfl) Z27
abbrev Z82:Shape:={ sl:=sl_3,bl:=bl_1,ts:=ts_4,pin:=0 }
abbrev Z9l:Shape:={ sl:=sl_0,bl:=bl_1,ts:=ts_2,pin:=7 }
def Z2n (x:T13):Option T8 :=
 (Z2b (x.1,x.2.1,x.2.2.1,x.2.2.2.1,x.2.2.2.2.1,x.2.2.2.2.2.1,x.2.2.2.2.2.2)).bind fun r18 =>
 bif r18.1 then
 (Z26 ((7:Int),x.1,r18.2.1,r18.2.2.1,r18.2.2.2.1,r18.2.2.2.2.1,r18.2.2.2.2.2.1,r18.2.2.2.2.2.2)).bind fun r19 =>
 bif (r19.1 == (0:Int)) then
 (Z26 ((3:Int),x.1,r18.2.1,r18.2.2.1,r18.2.2.2.1,r18.2.2.2.2.1,r18.2.2.2.2.2.1,r18.2.2.2.2.2.2)).bind fun r20 =>
 bif (x.1.2.2.2.1 == r20.1) then
 (Z26 ((5:Int),x.1,r18.2.1,r18.2.2.1,r18.2.2.2.1,r18.2.2.2.2.1,r18.2.2.2.2.2.1,r18.2.2.2.2.2.2)).bind fun r21 =>
 bif (inb x.1.2.2.1 (List.length r18.2.1)) then
 some ((decide (x.1.2.2.2.1 ≤ (IntKind.wrap .i64 (r21.1+(getAt (0:Int) r18.2.1 (toN x.1.2.2.1)))))),r18.2.1,r18.2.2.1,r18.2.2.2.1,r18.2.2.2.2.1,r18.2.2.2.2.2.1,r18.2.2.2.2.2.2)
 else
 none
 else
 some (false,r18.2.1,r18.2.2.1,r18.2.2.2.1,r18.2.2.2.2.1,r18.2.2.2.2.2.1,r18.2.2.2.2.2.2)
 else
 some (false,r18.2.1,r18.2.2.1,r18.2.2.2.1,r18.2.2.2.2.1,r18.2.2.2.2.2.1,r18.2.2.2.2.2.2)
 else
 some (false,r18.2.1,r18.2.2.1,r18.2.2.2.1,r18.2.2.2.2.1,r18.2.2.2.2.2.1,r18.2.2.2.2.2.2)
abbrev Zb3:=Spec.shp Z82 Z9l Z2n
def Z5p:Ctx:={ tb:=mkTb T2.tbl,fx:=[(57,[],Spec.thin (Zax)),(54,[],Spec.shpR Z7u Z9d Z26)],sum:=[],nt:=38,pin:=7,nr:=true,ys:=[] }
theorem Z2o:Sound Try.prog 56 (Zb3) :=
 Sound.shp (C:=Z5p) (fn:=Try.f56) (by kernel_rfl) (c:=bodyOf Try.f56) (by kernel_rfl) (by decide) (ctxOK mixed tbl_ok rfl ⟨Z2c.thin,Z28,trivial⟩ trivial) (SumOK.of trivial) (by kernel_rfl) Z82 Z9l rfl (by decide) (by decide) rfl (by decide) rfl Z2n (fun x=>by kernel_rfl)
abbrev Z83:Shape:={ sl:=sl_3,bl:=bl_1,ts:=ts_4,pin:=0 }
abbrev Z9m:Shape:={ sl:=sl_0,bl:=bl_1,ts:=ts_2,pin:=7 }
def Z2p (x:T13):Option T8 :=
 (Z2b (x.1,x.2.1,x.2.2.1,x.2.2.2.1,x.2.2.2.2.1,x.2.2.2.2.2.1,x.2.2.2.2.2.2)).bind fun r18 =>
 bif r18.1 then
 (Z26 ((5:Int),x.1,r18.2.1,r18.2.2.1,r18.2.2.2.1,r18.2.2.2.2.1,r18.2.2.2.2.2.1,r18.2.2.2.2.2.2)).bind fun r19 =>
 bif (x.1.2.2.2.1 == r19.1) then
 (Z26 ((3:Int),x.1,r18.2.1,r18.2.2.1,r18.2.2.2.1,r18.2.2.2.2.1,r18.2.2.2.2.2.1,r18.2.2.2.2.2.2)).bind fun r20 =>
 some ((decide (x.1.2.2.2.1 ≤ r20.1)),r18.2.1,r18.2.2.1,r18.2.2.2.1,r18.2.2.2.2.1,r18.2.2.2.2.2.1,r18.2.2.2.2.2.2)
 else
 some (false,r18.2.1,r18.2.2.1,r18.2.2.2.1,r18.2.2.2.2.1,r18.2.2.2.2.2.1,r18.2.2.2.2.2.2)
 else
 some (false,r18.2.1,r18.2.2.1,r18.2.2.2.1,r18.2.2.2.2.1,r18.2.2.2.2.2.1,r18.2.2.2.2.2.2)
abbrev Zb4:=Spec.shp Z83 Z9m Z2p
def Z5q:Ctx:={ tb:=mkTb T2.tbl,fx:=[(57,[],Spec.thin (Zax)),(54,[],Spec.shpR Z7u Z9d Z26)],sum:=[],nt:=23,pin:=7,nr:=true,ys:=[] }
theorem Z2q:Sound Try.prog 58 (Zb4) :=
 Sound.shp (C:=Z5q) (fn:=Try.f58) (by kernel_rfl) (c:=bodyOf Try.f58) (by kernel_rfl) (by decide) (ctxOK mixed tbl_ok rfl ⟨Z2c.thin,Z28,trivial⟩ trivial) (SumOK.of trivial) (by kernel_rfl) Z83 Z9m rfl (by decide) (by decide) rfl (by decide) rfl Z2p (fun x=>by kernel_rfl)
abbrev Z84:Shape:={ sl:=sl_3,bl:=bl_1,ts:=ts_4,pin:=0 }
abbrev Z9n:Shape:={ sl:=sl_0,bl:=bl_1,ts:=ts_2,pin:=7 }
def Z2r (x:T13):Option T8 :=
 (Z26 ((7:Int),x.1,x.2.1,x.2.2.1,x.2.2.2.1,x.2.2.2.2.1,x.2.2.2.2.2.1,x.2.2.2.2.2.2)).bind fun r18 =>
 bif (decide (r18.1 > (0:Int))) then
 (Z26 ((5:Int),x.1,x.2.1,x.2.2.1,x.2.2.2.1,x.2.2.2.2.1,x.2.2.2.2.2.1,x.2.2.2.2.2.2)).bind fun r19 =>
 (Z26 ((3:Int),x.1,x.2.1,x.2.2.1,x.2.2.2.1,x.2.2.2.2.1,x.2.2.2.2.2.1,x.2.2.2.2.2.2)).bind fun r20 =>
 some ((r19.1 == r20.1),x.2.1,x.2.2.1,x.2.2.2.1,x.2.2.2.2.1,x.2.2.2.2.2.1,x.2.2.2.2.2.2)
 else
 some (false,x.2.1,x.2.2.1,x.2.2.2.1,x.2.2.2.2.1,x.2.2.2.2.2.1,x.2.2.2.2.2.2)
abbrev Zb5:=Spec.shp Z84 Z9n Z2r
def Z5r:Ctx:={ tb:=mkTb T2.tbl,fx:=[(54,[],Spec.shpR Z7u Z9d Z26)],sum:=[],nt:=17,pin:=7,nr:=true,ys:=[] }
theorem Z2s:Sound Try.prog 59 (Zb5) :=
 Sound.shp (C:=Z5r) (fn:=Try.f59) (by kernel_rfl) (c:=bodyOf Try.f59) (by kernel_rfl) (by decide) (ctxOK mixed tbl_ok rfl ⟨Z28,trivial⟩ trivial) (SumOK.of trivial) (by kernel_rfl) Z84 Z9n rfl (by decide) (by decide) rfl (by decide) rfl Z2r (fun x=>by kernel_rfl)
abbrev Z85:Shape:={ sl:=sl_3,bl:=bl_1,ts:=ts_4,pin:=0 }
abbrev Z9o:Shape:={ sl:=sl_0,bl:=bl_1,ts:=ts_2,pin:=7 }
def Z2t (x:T13):Option T8 :=
 (Z2b (x.1,x.2.1,x.2.2.1,x.2.2.2.1,x.2.2.2.2.1,x.2.2.2.2.2.1,x.2.2.2.2.2.2)).bind fun r18 =>
 bif r18.1 then
 (Z26 ((7:Int),x.1,r18.2.1,r18.2.2.1,r18.2.2.2.1,r18.2.2.2.2.1,r18.2.2.2.2.2.1,r18.2.2.2.2.2.2)).bind fun r19 =>
 some ((r19.1 == (0:Int)),r18.2.1,r18.2.2.1,r18.2.2.2.1,r18.2.2.2.2.1,r18.2.2.2.2.2.1,r18.2.2.2.2.2.2)
 else
 some (false,r18.2.1,r18.2.2.1,r18.2.2.2.1,r18.2.2.2.2.1,r18.2.2.2.2.2.1,r18.2.2.2.2.2.2)
abbrev Zb6:=Spec.shp Z85 Z9o Z2t
def Z5s:Ctx:={ tb:=mkTb T2.tbl,fx:=[(57,[],Spec.thin (Zax)),(54,[],Spec.shpR Z7u Z9d Z26)],sum:=[],nt:=13,pin:=7,nr:=true,ys:=[] }
theorem Z2u:Sound Try.prog 60 (Zb6) :=
 Sound.shp (C:=Z5s) (fn:=Try.f60) (by kernel_rfl) (c:=bodyOf Try.f60) (by kernel_rfl) (by decide) (ctxOK mixed tbl_ok rfl ⟨Z2c.thin,Z28,trivial⟩ trivial) (SumOK.of trivial) (by kernel_rfl) Z85 Z9o rfl (by decide) (by decide) rfl (by decide) rfl Z2t (fun x=>by kernel_rfl)
abbrev Z7z:Shape:={ sl:=sl_3,bl:=bl_1,ts:=ts_4,pin:=0 }
abbrev Z9i:Shape:={ sl:=sl_1,bl:=bl_1,ts:=ts_3,pin:=7 }
def Z2g (x:T13):Option T7 :=
 (Z26 ((11:Int),x.1,x.2.1,x.2.2.1,x.2.2.2.1,x.2.2.2.2.1,x.2.2.2.2.2.1,x.2.2.2.2.2.2)).bind fun r19 =>
 (Z26 ((12:Int),x.1,x.2.1,x.2.2.1,x.2.2.2.1,x.2.2.2.2.1,x.2.2.2.2.2.1,x.2.2.2.2.2.2)).bind fun r20 =>
 some ((IntKind.wrap .i64 (r19.1 - r20.1)),x.2.1,x.2.2.1,x.2.2.2.1,x.2.2.2.2.1,x.2.2.2.2.2.1,x.2.2.2.2.2.2)
abbrev Zb0:=Spec.shp Z7z Z9i Z2g
def Z5m:Ctx:={ tb:=mkTb T2.tbl,fx:=[(54,[],Spec.shpR Z7u Z9d Z26)],sum:=[],nt:=11,pin:=7,nr:=true,ys:=[] }
theorem Z2j:Sound Try.prog 53 (Zb0) :=
 Sound.shp (C:=Z5m) (fn:=Try.f53) (by kernel_rfl) (c:=bodyOf Try.f53) (by kernel_rfl) (by decide) (ctxOK mixed tbl_ok rfl ⟨Z28,trivial⟩ trivial) (SumOK.of trivial) (by kernel_rfl) Z7z Z9i rfl (by decide) (by decide) rfl (by decide) rfl Z2g (fun x=>by kernel_rfl)
abbrev Z86:Shape:={ sl:=sl_3,bl:=bl_2,ts:=ts_4,pin:=0 }
abbrev Z9p:Shape:={ sl:=sl_0,bl:=bl_2,ts:=ts_2,pin:=7 }
def Z2v (x:T13):Option T8 :=
 (Z2g (x.1,x.2.1,x.2.2.1,x.2.2.2.1,x.2.2.2.2.1,x.2.2.2.2.2.1,x.2.2.2.2.2.2)).bind fun r18 =>
 some ((r18.1 == (0:Int)),r18.2.1,r18.2.2.1,r18.2.2.2.1,r18.2.2.2.2.1,r18.2.2.2.2.2.1,r18.2.2.2.2.2.2)
abbrev Zb7:=Spec.shp Z86 Z9p Z2v
def Z5t:Ctx:={ tb:=mkTb T2.tbl,fx:=[(53,[],Spec.thin (Zb0))],sum:=[],nt:=8,pin:=7,nr:=true,ys:=[] }
theorem Z2w:Sound Try.prog 61 (Zb7) :=
 Sound.shp (C:=Z5t) (fn:=Try.f61) (by kernel_rfl) (c:=bodyOf Try.f61) (by kernel_rfl) (by decide) (ctxOK mixed tbl_ok rfl ⟨Z2j.thin,trivial⟩ trivial) (SumOK.of trivial) (by kernel_rfl) Z86 Z9p rfl (by decide) (by decide) rfl (by decide) rfl Z2v (fun x=>by kernel_rfl)
abbrev Z87:Shape:={ sl:=sl_3,bl:=bl_2,ts:=ts_4,pin:=0 }
abbrev Z9q:Shape:={ sl:=sl_0,bl:=bl_2,ts:=ts_2,pin:=7 }
def Z2x (x:T13):Option T8 :=
 (Z2g (x.1,x.2.1,x.2.2.1,x.2.2.2.1,x.2.2.2.2.1,x.2.2.2.2.2.1,x.2.2.2.2.2.2)).bind fun r18 =>
 some ((r18.1 == (1:Int)),r18.2.1,r18.2.2.1,r18.2.2.2.1,r18.2.2.2.2.1,r18.2.2.2.2.2.1,r18.2.2.2.2.2.2)
abbrev Zb8:=Spec.shp Z87 Z9q Z2x
def Z5u:Ctx:={ tb:=mkTb T2.tbl,fx:=[(53,[],Spec.thin (Zb0))],sum:=[],nt:=8,pin:=7,nr:=true,ys:=[] }
theorem Z2y:Sound Try.prog 62 (Zb8) :=
 Sound.shp (C:=Z5u) (fn:=Try.f62) (by kernel_rfl) (c:=bodyOf Try.f62) (by kernel_rfl) (by decide) (ctxOK mixed tbl_ok rfl ⟨Z2j.thin,trivial⟩ trivial) (SumOK.of trivial) (by kernel_rfl) Z87 Z9q rfl (by decide) (by decide) rfl (by decide) rfl Z2x (fun x=>by kernel_rfl)
abbrev Z88:Shape:={ sl:=sl_3,bl:=bl_1,ts:=ts_4,pin:=0 }
abbrev Z9r:Shape:={ sl:=sl_0,bl:=bl_1,ts:=ts_2,pin:=7 }
def Z2z (x:T13):Option T8 :=
 (Z26 ((14:Int),x.1,x.2.1,x.2.2.1,x.2.2.2.1,x.2.2.2.2.1,x.2.2.2.2.2.1,x.2.2.2.2.2.2)).bind fun r18 =>
 bif (r18.1 == (0:Int)) then
 some (((@mlook (Int) (Int) (Ty.beq (.int .i64)) (Ty.zero (.int .i64)) x.1.2.2.1 x.2.2.2.2.2.1) == (IntKind.wrap .i64 (x.1.1+(1:Int)))),x.2.1,x.2.2.1,x.2.2.2.1,x.2.2.2.2.1,x.2.2.2.2.2.1,x.2.2.2.2.2.2)
 else
 some (false,x.2.1,x.2.2.1,x.2.2.2.1,x.2.2.2.2.1,x.2.2.2.2.2.1,x.2.2.2.2.2.2)
abbrev Zb9:=Spec.shp Z88 Z9r Z2z
def Z5v:Ctx:={ tb:=mkTb T2.tbl,fx:=[(54,[],Spec.shpR Z7u Z9d Z26)],sum:=[],nt:=21,pin:=7,nr:=true,ys:=[] }
theorem Z30:Sound Try.prog 63 (Zb9) :=
 Sound.shp (C:=Z5v) (fn:=Try.f63) (by kernel_rfl) (c:=bodyOf Try.f63) (by kernel_rfl) (by decide) (ctxOK mixed tbl_ok rfl ⟨Z28,trivial⟩ trivial) (SumOK.of trivial) (by kernel_rfl) Z88 Z9r rfl (by decide) (by decide) rfl (by decide) rfl Z2z (fun x=>by kernel_rfl)
abbrev Z80:Shape:={ sl:=sl_3,bl:=bl_1,ts:=ts_4,pin:=0 }
abbrev Z9j:Shape:={ sl:=sl_0,bl:=bl_1,ts:=ts_2,pin:=7 }
def Z2h (x:T13):Option T8 :=
 (Z26 ((14:Int),x.1,x.2.1,x.2.2.1,x.2.2.2.1,x.2.2.2.2.1,x.2.2.2.2.2.1,x.2.2.2.2.2.2)).bind fun r18 =>
 some ((decide (r18.1 > (0:Int))),x.2.1,x.2.2.1,x.2.2.2.1,x.2.2.2.2.1,x.2.2.2.2.2.1,x.2.2.2.2.2.2)
abbrev Zb1:=Spec.shp Z80 Z9j Z2h
def Z5n:Ctx:={ tb:=mkTb T2.tbl,fx:=[(54,[],Spec.shpR Z7u Z9d Z26)],sum:=[],nt:=8,pin:=7,nr:=true,ys:=[] }
theorem Z2i:Sound Try.prog 64 (Zb1) :=
 Sound.shp (C:=Z5n) (fn:=Try.f64) (by kernel_rfl) (c:=bodyOf Try.f64) (by kernel_rfl) (by decide) (ctxOK mixed tbl_ok rfl ⟨Z28,trivial⟩ trivial) (SumOK.of trivial) (by kernel_rfl) Z80 Z9j rfl (by decide) (by decide) rfl (by decide) rfl Z2h (fun x=>by kernel_rfl)
abbrev Z7x:Shape:={ sl:=sl_2,bl:=bl_0,ts:=ts_1,pin:=0 }
abbrev Z9g:Shape:={ sl:=sl_0,bl:=bl_0,ts:=ts_2,pin:=7 }
def Z2d (x:T14):Option T8 :=
 (Z1y (x.2.1.1,(0:Int),(7:Int))).bind fun r11 =>
 bif (Bool.not r11) then
 some (false,x.2.2.1,x.2.2.2.1,x.2.2.2.2.1,x.2.2.2.2.2.1,x.2.2.2.2.2.2.1,x.2.2.2.2.2.2.2)
 else
 (Z1y (x.2.1.2.1,(0:Int),(17:Int))).bind fun r12 =>
 bif (Bool.not r12) then
 some (false,x.2.2.1,x.2.2.2.1,x.2.2.2.2.1,x.2.2.2.2.2.1,x.2.2.2.2.2.2.1,x.2.2.2.2.2.2.2)
 else
 bif (decide (x.2.1.2.2.2.1 < (0:Int))) then
 some (false,x.2.2.1,x.2.2.2.1,x.2.2.2.2.1,x.2.2.2.2.2.1,x.2.2.2.2.2.2.1,x.2.2.2.2.2.2.2)
 else
 (Z1y (x.2.1.2.2.2.2,(Int.negSucc 0),(IntKind.wrap .i64 ((((List.length x.1):Nat):Int) - (1:Int))))).bind fun r13 =>
 bif (Bool.not r13) then
 some (false,x.2.2.1,x.2.2.2.1,x.2.2.2.2.1,x.2.2.2.2.2.1,x.2.2.2.2.2.2.1,x.2.2.2.2.2.2.2)
 else
 bif (x.2.1.2.1 == (0:Int)) then
 (Z22 (x.1,x.2.1,x.2.2.1,x.2.2.2.1,x.2.2.2.2.1,x.2.2.2.2.2.1,x.2.2.2.2.2.2.1,x.2.2.2.2.2.2.2)).bind fun r14 =>
 some (r14.1,r14.2.1,r14.2.2.1,r14.2.2.2.1,r14.2.2.2.2.1,r14.2.2.2.2.2.1,r14.2.2.2.2.2.2)
 else
 bif (x.2.1.2.1 == (3:Int)) then
 bif (inb x.2.1.1 8) then
 bif ((getAt (0:Int) x.2.2.2.1 (toN x.2.1.1)) == (0:Int)) then
 some (false,x.2.2.1,x.2.2.2.1,x.2.2.2.2.1,x.2.2.2.2.2.1,x.2.2.2.2.2.2.1,x.2.2.2.2.2.2.2)
 else
 bif (x.2.1.2.1 != (1:Int)) then
 (Z29 (x.2.1.2.1,x.2.2.1,x.2.2.2.1,x.2.2.2.2.1,x.2.2.2.2.2.1,x.2.2.2.2.2.2.1,x.2.2.2.2.2.2.2)).bind fun r14 =>
 (Z1y (x.2.1.2.2.1,(0:Int),(IntKind.wrap .i64 (r14.1 - (1:Int))))).bind fun r15 =>
 bif (Bool.not r15) then
 some (false,r14.2.1,r14.2.2.1,r14.2.2.2.1,r14.2.2.2.2.1,r14.2.2.2.2.2.1,r14.2.2.2.2.2.2)
 else
 (Z20 (x.1,x.2.1,r14.2.1,r14.2.2.1,r14.2.2.2.1,r14.2.2.2.2.1,r14.2.2.2.2.2.1,r14.2.2.2.2.2.2)).bind fun r16 =>
 bif (Bool.not r16.1) then
 some (false,r16.2.1,r16.2.2.1,r16.2.2.2.1,r16.2.2.2.2.1,r16.2.2.2.2.2.1,r16.2.2.2.2.2.2)
 else
 bif (eqI x.2.1.2.1 (1:Int)) then
 (Z2k (x.2.1,r16.2.1,r16.2.2.1,r16.2.2.2.1,r16.2.2.2.2.1,r16.2.2.2.2.2.1,r16.2.2.2.2.2.2)).bind fun r17 =>
 some (r17.1,r16.2.1,r16.2.2.1,r16.2.2.2.1,r16.2.2.2.2.1,r16.2.2.2.2.2.1,r16.2.2.2.2.2.2)
 else
 bif (eqI x.2.1.2.1 (3:Int)) then
 (Z2n (x.2.1,r16.2.1,r16.2.2.1,r16.2.2.2.1,r16.2.2.2.2.1,r16.2.2.2.2.2.1,r16.2.2.2.2.2.2)).bind fun r17 =>
 some (r17.1,r17.2.1,r17.2.2.1,r17.2.2.2.1,r17.2.2.2.2.1,r17.2.2.2.2.2.1,r17.2.2.2.2.2.2)
 else
 bif (eqI x.2.1.2.1 (5:Int)) then
 (Z2p (x.2.1,r16.2.1,r16.2.2.1,r16.2.2.2.1,r16.2.2.2.2.1,r16.2.2.2.2.2.1,r16.2.2.2.2.2.2)).bind fun r17 =>
 some (r17.1,r17.2.1,r17.2.2.1,r17.2.2.2.1,r17.2.2.2.2.1,r17.2.2.2.2.2.1,r17.2.2.2.2.2.2)
 else
 bif (eqI x.2.1.2.1 (6:Int)) then
 (Z2r (x.2.1,r16.2.1,r16.2.2.1,r16.2.2.2.1,r16.2.2.2.2.1,r16.2.2.2.2.2.1,r16.2.2.2.2.2.2)).bind fun r17 =>
 some (r17.1,r17.2.1,r17.2.2.1,r17.2.2.2.1,r17.2.2.2.2.1,r17.2.2.2.2.2.1,r17.2.2.2.2.2.2)
 else
 bif (eqI x.2.1.2.1 (7:Int)) then
 (Z2t (x.2.1,r16.2.1,r16.2.2.1,r16.2.2.2.1,r16.2.2.2.2.1,r16.2.2.2.2.2.1,r16.2.2.2.2.2.2)).bind fun r17 =>
 some (r17.1,r17.2.1,r17.2.2.1,r17.2.2.2.1,r17.2.2.2.2.1,r17.2.2.2.2.2.1,r17.2.2.2.2.2.2)
 else
 bif (eqI x.2.1.2.1 (11:Int)) then
 (Z2v (x.2.1,r16.2.1,r16.2.2.1,r16.2.2.2.1,r16.2.2.2.2.1,r16.2.2.2.2.2.1,r16.2.2.2.2.2.2)).bind fun r17 =>
 some (r17.1,r17.2.1,r17.2.2.1,r17.2.2.2.1,r17.2.2.2.2.1,r17.2.2.2.2.2.1,r17.2.2.2.2.2.2)
 else
 bif (eqI x.2.1.2.1 (12:Int)) then
 (Z2x (x.2.1,r16.2.1,r16.2.2.1,r16.2.2.2.1,r16.2.2.2.2.1,r16.2.2.2.2.2.1,r16.2.2.2.2.2.2)).bind fun r17 =>
 some (r17.1,r17.2.1,r17.2.2.1,r17.2.2.2.1,r17.2.2.2.2.1,r17.2.2.2.2.2.1,r17.2.2.2.2.2.2)
 else
 bif (eqI x.2.1.2.1 (14:Int)) then
 (Z2z (x.2.1,r16.2.1,r16.2.2.1,r16.2.2.2.1,r16.2.2.2.2.1,r16.2.2.2.2.2.1,r16.2.2.2.2.2.2)).bind fun r17 =>
 some (r17.1,r17.2.1,r17.2.2.1,r17.2.2.2.1,r17.2.2.2.2.1,r17.2.2.2.2.2.1,r17.2.2.2.2.2.2)
 else
 bif (eqI x.2.1.2.1 (15:Int)) then
 (Z2h (x.2.1,r16.2.1,r16.2.2.1,r16.2.2.2.1,r16.2.2.2.2.1,r16.2.2.2.2.2.1,r16.2.2.2.2.2.2)).bind fun r17 =>
 some (r17.1,r17.2.1,r17.2.2.1,r17.2.2.2.1,r17.2.2.2.2.1,r17.2.2.2.2.2.1,r17.2.2.2.2.2.2)
 else
 some (true,r16.2.1,r16.2.2.1,r16.2.2.2.1,r16.2.2.2.2.1,r16.2.2.2.2.2.1,r16.2.2.2.2.2.2)
 else
 (Z20 (x.1,x.2.1,x.2.2.1,x.2.2.2.1,x.2.2.2.2.1,x.2.2.2.2.2.1,x.2.2.2.2.2.2.1,x.2.2.2.2.2.2.2)).bind fun r14 =>
 bif (Bool.not r14.1) then
 some (false,r14.2.1,r14.2.2.1,r14.2.2.2.1,r14.2.2.2.2.1,r14.2.2.2.2.2.1,r14.2.2.2.2.2.2)
 else
 bif (eqI x.2.1.2.1 (1:Int)) then
 (Z2k (x.2.1,r14.2.1,r14.2.2.1,r14.2.2.2.1,r14.2.2.2.2.1,r14.2.2.2.2.2.1,r14.2.2.2.2.2.2)).bind fun r15 =>
 some (r15.1,r14.2.1,r14.2.2.1,r14.2.2.2.1,r14.2.2.2.2.1,r14.2.2.2.2.2.1,r14.2.2.2.2.2.2)
 else
 bif (eqI x.2.1.2.1 (3:Int)) then
 (Z2n (x.2.1,r14.2.1,r14.2.2.1,r14.2.2.2.1,r14.2.2.2.2.1,r14.2.2.2.2.2.1,r14.2.2.2.2.2.2)).bind fun r15 =>
 some (r15.1,r15.2.1,r15.2.2.1,r15.2.2.2.1,r15.2.2.2.2.1,r15.2.2.2.2.2.1,r15.2.2.2.2.2.2)
 else
 bif (eqI x.2.1.2.1 (5:Int)) then
 (Z2p (x.2.1,r14.2.1,r14.2.2.1,r14.2.2.2.1,r14.2.2.2.2.1,r14.2.2.2.2.2.1,r14.2.2.2.2.2.2)).bind fun r15 =>
 some (r15.1,r15.2.1,r15.2.2.1,r15.2.2.2.1,r15.2.2.2.2.1,r15.2.2.2.2.2.1,r15.2.2.2.2.2.2)
 else
 bif (eqI x.2.1.2.1 (6:Int)) then
 (Z2r (x.2.1,r14.2.1,r14.2.2.1,r14.2.2.2.1,r14.2.2.2.2.1,r14.2.2.2.2.2.1,r14.2.2.2.2.2.2)).bind fun r15 =>
 some (r15.1,r15.2.1,r15.2.2.1,r15.2.2.2.1,r15.2.2.2.2.1,r15.2.2.2.2.2.1,r15.2.2.2.2.2.2)
 else
 bif (eqI x.2.1.2.1 (7:Int)) then
 (Z2t (x.2.1,r14.2.1,r14.2.2.1,r14.2.2.2.1,r14.2.2.2.2.1,r14.2.2.2.2.2.1,r14.2.2.2.2.2.2)).bind fun r15 =>
 some (r15.1,r15.2.1,r15.2.2.1,r15.2.2.2.1,r15.2.2.2.2.1,r15.2.2.2.2.2.1,r15.2.2.2.2.2.2)
 else
 bif (eqI x.2.1.2.1 (11:Int)) then
 (Z2v (x.2.1,r14.2.1,r14.2.2.1,r14.2.2.2.1,r14.2.2.2.2.1,r14.2.2.2.2.2.1,r14.2.2.2.2.2.2)).bind fun r15 =>
 some (r15.1,r15.2.1,r15.2.2.1,r15.2.2.2.1,r15.2.2.2.2.1,r15.2.2.2.2.2.1,r15.2.2.2.2.2.2)
 else
 bif (eqI x.2.1.2.1 (12:Int)) then
 (Z2x (x.2.1,r14.2.1,r14.2.2.1,r14.2.2.2.1,r14.2.2.2.2.1,r14.2.2.2.2.2.1,r14.2.2.2.2.2.2)).bind fun r15 =>
 some (r15.1,r15.2.1,r15.2.2.1,r15.2.2.2.1,r15.2.2.2.2.1,r15.2.2.2.2.2.1,r15.2.2.2.2.2.2)
 else
 bif (eqI x.2.1.2.1 (14:Int)) then
 (Z2z (x.2.1,r14.2.1,r14.2.2.1,r14.2.2.2.1,r14.2.2.2.2.1,r14.2.2.2.2.2.1,r14.2.2.2.2.2.2)).bind fun r15 =>
 some (r15.1,r15.2.1,r15.2.2.1,r15.2.2.2.1,r15.2.2.2.2.1,r15.2.2.2.2.2.1,r15.2.2.2.2.2.2)
 else
 bif (eqI x.2.1.2.1 (15:Int)) then
 (Z2h (x.2.1,r14.2.1,r14.2.2.1,r14.2.2.2.1,r14.2.2.2.2.1,r14.2.2.2.2.2.1,r14.2.2.2.2.2.2)).bind fun r15 =>
 some (r15.1,r15.2.1,r15.2.2.1,r15.2.2.2.1,r15.2.2.2.2.1,r15.2.2.2.2.2.1,r15.2.2.2.2.2.2)
 else
 some (true,r14.2.1,r14.2.2.1,r14.2.2.2.1,r14.2.2.2.2.1,r14.2.2.2.2.2.1,r14.2.2.2.2.2.2)
 else
 none
 else
 bif (inb x.2.1.1 8) then
 bif ((getAt (0:Int) x.2.2.2.1 (toN x.2.1.1)) == (0:Int)) then
 some (false,x.2.2.1,x.2.2.2.1,x.2.2.2.2.1,x.2.2.2.2.2.1,x.2.2.2.2.2.2.1,x.2.2.2.2.2.2.2)
 else
 bif (Bool.not (x.2.1.2.1 == (5:Int))) then
 bif (x.2.1.2.2.2.1 != (0:Int)) then
 some (false,x.2.2.1,x.2.2.2.1,x.2.2.2.2.1,x.2.2.2.2.2.1,x.2.2.2.2.2.2.1,x.2.2.2.2.2.2.2)
 else
 bif (x.2.1.2.1 != (1:Int)) then
 (Z29 (x.2.1.2.1,x.2.2.1,x.2.2.2.1,x.2.2.2.2.1,x.2.2.2.2.2.1,x.2.2.2.2.2.2.1,x.2.2.2.2.2.2.2)).bind fun r14 =>
 (Z1y (x.2.1.2.2.1,(0:Int),(IntKind.wrap .i64 (r14.1 - (1:Int))))).bind fun r15 =>
 bif (Bool.not r15) then
 some (false,r14.2.1,r14.2.2.1,r14.2.2.2.1,r14.2.2.2.2.1,r14.2.2.2.2.2.1,r14.2.2.2.2.2.2)
 else
 (Z20 (x.1,x.2.1,r14.2.1,r14.2.2.1,r14.2.2.2.1,r14.2.2.2.2.1,r14.2.2.2.2.2.1,r14.2.2.2.2.2.2)).bind fun r16 =>
 bif (Bool.not r16.1) then
 some (false,r16.2.1,r16.2.2.1,r16.2.2.2.1,r16.2.2.2.2.1,r16.2.2.2.2.2.1,r16.2.2.2.2.2.2)
 else
 bif (eqI x.2.1.2.1 (1:Int)) then
 (Z2k (x.2.1,r16.2.1,r16.2.2.1,r16.2.2.2.1,r16.2.2.2.2.1,r16.2.2.2.2.2.1,r16.2.2.2.2.2.2)).bind fun r17 =>
 some (r17.1,r16.2.1,r16.2.2.1,r16.2.2.2.1,r16.2.2.2.2.1,r16.2.2.2.2.2.1,r16.2.2.2.2.2.2)
 else
 bif (eqI x.2.1.2.1 (3:Int)) then
 (Z2n (x.2.1,r16.2.1,r16.2.2.1,r16.2.2.2.1,r16.2.2.2.2.1,r16.2.2.2.2.2.1,r16.2.2.2.2.2.2)).bind fun r17 =>
 some (r17.1,r17.2.1,r17.2.2.1,r17.2.2.2.1,r17.2.2.2.2.1,r17.2.2.2.2.2.1,r17.2.2.2.2.2.2)
 else
 bif (eqI x.2.1.2.1 (5:Int)) then
 (Z2p (x.2.1,r16.2.1,r16.2.2.1,r16.2.2.2.1,r16.2.2.2.2.1,r16.2.2.2.2.2.1,r16.2.2.2.2.2.2)).bind fun r17 =>
 some (r17.1,r17.2.1,r17.2.2.1,r17.2.2.2.1,r17.2.2.2.2.1,r17.2.2.2.2.2.1,r17.2.2.2.2.2.2)
 else
 bif (eqI x.2.1.2.1 (6:Int)) then
 (Z2r (x.2.1,r16.2.1,r16.2.2.1,r16.2.2.2.1,r16.2.2.2.2.1,r16.2.2.2.2.2.1,r16.2.2.2.2.2.2)).bind fun r17 =>
 some (r17.1,r17.2.1,r17.2.2.1,r17.2.2.2.1,r17.2.2.2.2.1,r17.2.2.2.2.2.1,r17.2.2.2.2.2.2)
 else
 bif (eqI x.2.1.2.1 (7:Int)) then
 (Z2t (x.2.1,r16.2.1,r16.2.2.1,r16.2.2.2.1,r16.2.2.2.2.1,r16.2.2.2.2.2.1,r16.2.2.2.2.2.2)).bind fun r17 =>
 some (r17.1,r17.2.1,r17.2.2.1,r17.2.2.2.1,r17.2.2.2.2.1,r17.2.2.2.2.2.1,r17.2.2.2.2.2.2)
 else
 bif (eqI x.2.1.2.1 (11:Int)) then
 (Z2v (x.2.1,r16.2.1,r16.2.2.1,r16.2.2.2.1,r16.2.2.2.2.1,r16.2.2.2.2.2.1,r16.2.2.2.2.2.2)).bind fun r17 =>
 some (r17.1,r17.2.1,r17.2.2.1,r17.2.2.2.1,r17.2.2.2.2.1,r17.2.2.2.2.2.1,r17.2.2.2.2.2.2)
 else
 bif (eqI x.2.1.2.1 (12:Int)) then
 (Z2x (x.2.1,r16.2.1,r16.2.2.1,r16.2.2.2.1,r16.2.2.2.2.1,r16.2.2.2.2.2.1,r16.2.2.2.2.2.2)).bind fun r17 =>
 some (r17.1,r17.2.1,r17.2.2.1,r17.2.2.2.1,r17.2.2.2.2.1,r17.2.2.2.2.2.1,r17.2.2.2.2.2.2)
 else
 bif (eqI x.2.1.2.1 (14:Int)) then
 (Z2z (x.2.1,r16.2.1,r16.2.2.1,r16.2.2.2.1,r16.2.2.2.2.1,r16.2.2.2.2.2.1,r16.2.2.2.2.2.2)).bind fun r17 =>
 some (r17.1,r17.2.1,r17.2.2.1,r17.2.2.2.1,r17.2.2.2.2.1,r17.2.2.2.2.2.1,r17.2.2.2.2.2.2)
 else
 bif (eqI x.2.1.2.1 (15:Int)) then
 (Z2h (x.2.1,r16.2.1,r16.2.2.1,r16.2.2.2.1,r16.2.2.2.2.1,r16.2.2.2.2.2.1,r16.2.2.2.2.2.2)).bind fun r17 =>
 some (r17.1,r17.2.1,r17.2.2.1,r17.2.2.2.1,r17.2.2.2.2.1,r17.2.2.2.2.2.1,r17.2.2.2.2.2.2)
 else
 some (true,r16.2.1,r16.2.2.1,r16.2.2.2.1,r16.2.2.2.2.1,r16.2.2.2.2.2.1,r16.2.2.2.2.2.2)
 else
 (Z20 (x.1,x.2.1,x.2.2.1,x.2.2.2.1,x.2.2.2.2.1,x.2.2.2.2.2.1,x.2.2.2.2.2.2.1,x.2.2.2.2.2.2.2)).bind fun r14 =>
 bif (Bool.not r14.1) then
 some (false,r14.2.1,r14.2.2.1,r14.2.2.2.1,r14.2.2.2.2.1,r14.2.2.2.2.2.1,r14.2.2.2.2.2.2)
 else
 bif (eqI x.2.1.2.1 (1:Int)) then
 (Z2k (x.2.1,r14.2.1,r14.2.2.1,r14.2.2.2.1,r14.2.2.2.2.1,r14.2.2.2.2.2.1,r14.2.2.2.2.2.2)).bind fun r15 =>
 some (r15.1,r14.2.1,r14.2.2.1,r14.2.2.2.1,r14.2.2.2.2.1,r14.2.2.2.2.2.1,r14.2.2.2.2.2.2)
 else
 bif (eqI x.2.1.2.1 (3:Int)) then
 (Z2n (x.2.1,r14.2.1,r14.2.2.1,r14.2.2.2.1,r14.2.2.2.2.1,r14.2.2.2.2.2.1,r14.2.2.2.2.2.2)).bind fun r15 =>
 some (r15.1,r15.2.1,r15.2.2.1,r15.2.2.2.1,r15.2.2.2.2.1,r15.2.2.2.2.2.1,r15.2.2.2.2.2.2)
 else
 bif (eqI x.2.1.2.1 (5:Int)) then
 (Z2p (x.2.1,r14.2.1,r14.2.2.1,r14.2.2.2.1,r14.2.2.2.2.1,r14.2.2.2.2.2.1,r14.2.2.2.2.2.2)).bind fun r15 =>
 some (r15.1,r15.2.1,r15.2.2.1,r15.2.2.2.1,r15.2.2.2.2.1,r15.2.2.2.2.2.1,r15.2.2.2.2.2.2)
 else
 bif (eqI x.2.1.2.1 (6:Int)) then
 (Z2r (x.2.1,r14.2.1,r14.2.2.1,r14.2.2.2.1,r14.2.2.2.2.1,r14.2.2.2.2.2.1,r14.2.2.2.2.2.2)).bind fun r15 =>
 some (r15.1,r15.2.1,r15.2.2.1,r15.2.2.2.1,r15.2.2.2.2.1,r15.2.2.2.2.2.1,r15.2.2.2.2.2.2)
 else
 bif (eqI x.2.1.2.1 (7:Int)) then
 (Z2t (x.2.1,r14.2.1,r14.2.2.1,r14.2.2.2.1,r14.2.2.2.2.1,r14.2.2.2.2.2.1,r14.2.2.2.2.2.2)).bind fun r15 =>
 some (r15.1,r15.2.1,r15.2.2.1,r15.2.2.2.1,r15.2.2.2.2.1,r15.2.2.2.2.2.1,r15.2.2.2.2.2.2)
 else
 bif (eqI x.2.1.2.1 (11:Int)) then
 (Z2v (x.2.1,r14.2.1,r14.2.2.1,r14.2.2.2.1,r14.2.2.2.2.1,r14.2.2.2.2.2.1,r14.2.2.2.2.2.2)).bind fun r15 =>
 some (r15.1,r15.2.1,r15.2.2.1,r15.2.2.2.1,r15.2.2.2.2.1,r15.2.2.2.2.2.1,r15.2.2.2.2.2.2)
 else
 bif (eqI x.2.1.2.1 (12:Int)) then
 (Z2x (x.2.1,r14.2.1,r14.2.2.1,r14.2.2.2.1,r14.2.2.2.2.1,r14.2.2.2.2.2.1,r14.2.2.2.2.2.2)).bind fun r15 =>
 some (r15.1,r15.2.1,r15.2.2.1,r15.2.2.2.1,r15.2.2.2.2.1,r15.2.2.2.2.2.1,r15.2.2.2.2.2.2)
 else
 bif (eqI x.2.1.2.1 (14:Int)) then
 (Z2z (x.2.1,r14.2.1,r14.2.2.1,r14.2.2.2.1,r14.2.2.2.2.1,r14.2.2.2.2.2.1,r14.2.2.2.2.2.2)).bind fun r15 =>
 some (r15.1,r15.2.1,r15.2.2.1,r15.2.2.2.1,r15.2.2.2.2.1,r15.2.2.2.2.2.1,r15.2.2.2.2.2.2)
 else
 bif (eqI x.2.1.2.1 (15:Int)) then
 (Z2h (x.2.1,r14.2.1,r14.2.2.1,r14.2.2.2.1,r14.2.2.2.2.1,r14.2.2.2.2.2.1,r14.2.2.2.2.2.2)).bind fun r15 =>
 some (r15.1,r15.2.1,r15.2.2.1,r15.2.2.2.1,r15.2.2.2.2.1,r15.2.2.2.2.2.1,r15.2.2.2.2.2.2)
 else
 some (true,r14.2.1,r14.2.2.1,r14.2.2.2.1,r14.2.2.2.2.1,r14.2.2.2.2.2.1,r14.2.2.2.2.2.2)
 else
 bif (x.2.1.2.1 != (1:Int)) then
 (Z29 (x.2.1.2.1,x.2.2.1,x.2.2.2.1,x.2.2.2.2.1,x.2.2.2.2.2.1,x.2.2.2.2.2.2.1,x.2.2.2.2.2.2.2)).bind fun r14 =>
 (Z1y (x.2.1.2.2.1,(0:Int),(IntKind.wrap .i64 (r14.1 - (1:Int))))).bind fun r15 =>
 bif (Bool.not r15) then
 some (false,r14.2.1,r14.2.2.1,r14.2.2.2.1,r14.2.2.2.2.1,r14.2.2.2.2.2.1,r14.2.2.2.2.2.2)
 else
 (Z20 (x.1,x.2.1,r14.2.1,r14.2.2.1,r14.2.2.2.1,r14.2.2.2.2.1,r14.2.2.2.2.2.1,r14.2.2.2.2.2.2)).bind fun r16 =>
 bif (Bool.not r16.1) then
 some (false,r16.2.1,r16.2.2.1,r16.2.2.2.1,r16.2.2.2.2.1,r16.2.2.2.2.2.1,r16.2.2.2.2.2.2)
 else
 bif (eqI x.2.1.2.1 (1:Int)) then
 (Z2k (x.2.1,r16.2.1,r16.2.2.1,r16.2.2.2.1,r16.2.2.2.2.1,r16.2.2.2.2.2.1,r16.2.2.2.2.2.2)).bind fun r17 =>
 some (r17.1,r16.2.1,r16.2.2.1,r16.2.2.2.1,r16.2.2.2.2.1,r16.2.2.2.2.2.1,r16.2.2.2.2.2.2)
 else
 bif (eqI x.2.1.2.1 (3:Int)) then
 (Z2n (x.2.1,r16.2.1,r16.2.2.1,r16.2.2.2.1,r16.2.2.2.2.1,r16.2.2.2.2.2.1,r16.2.2.2.2.2.2)).bind fun r17 =>
 some (r17.1,r17.2.1,r17.2.2.1,r17.2.2.2.1,r17.2.2.2.2.1,r17.2.2.2.2.2.1,r17.2.2.2.2.2.2)
 else
 bif (eqI x.2.1.2.1 (5:Int)) then
 (Z2p (x.2.1,r16.2.1,r16.2.2.1,r16.2.2.2.1,r16.2.2.2.2.1,r16.2.2.2.2.2.1,r16.2.2.2.2.2.2)).bind fun r17 =>
 some (r17.1,r17.2.1,r17.2.2.1,r17.2.2.2.1,r17.2.2.2.2.1,r17.2.2.2.2.2.1,r17.2.2.2.2.2.2)
 else
 bif (eqI x.2.1.2.1 (6:Int)) then
 (Z2r (x.2.1,r16.2.1,r16.2.2.1,r16.2.2.2.1,r16.2.2.2.2.1,r16.2.2.2.2.2.1,r16.2.2.2.2.2.2)).bind fun r17 =>
 some (r17.1,r17.2.1,r17.2.2.1,r17.2.2.2.1,r17.2.2.2.2.1,r17.2.2.2.2.2.1,r17.2.2.2.2.2.2)
 else
 bif (eqI x.2.1.2.1 (7:Int)) then
 (Z2t (x.2.1,r16.2.1,r16.2.2.1,r16.2.2.2.1,r16.2.2.2.2.1,r16.2.2.2.2.2.1,r16.2.2.2.2.2.2)).bind fun r17 =>
 some (r17.1,r17.2.1,r17.2.2.1,r17.2.2.2.1,r17.2.2.2.2.1,r17.2.2.2.2.2.1,r17.2.2.2.2.2.2)
 else
 bif (eqI x.2.1.2.1 (11:Int)) then
 (Z2v (x.2.1,r16.2.1,r16.2.2.1,r16.2.2.2.1,r16.2.2.2.2.1,r16.2.2.2.2.2.1,r16.2.2.2.2.2.2)).bind fun r17 =>
 some (r17.1,r17.2.1,r17.2.2.1,r17.2.2.2.1,r17.2.2.2.2.1,r17.2.2.2.2.2.1,r17.2.2.2.2.2.2)
 else
 bif (eqI x.2.1.2.1 (12:Int)) then
 (Z2x (x.2.1,r16.2.1,r16.2.2.1,r16.2.2.2.1,r16.2.2.2.2.1,r16.2.2.2.2.2.1,r16.2.2.2.2.2.2)).bind fun r17 =>
 some (r17.1,r17.2.1,r17.2.2.1,r17.2.2.2.1,r17.2.2.2.2.1,r17.2.2.2.2.2.1,r17.2.2.2.2.2.2)
 else
 bif (eqI x.2.1.2.1 (14:Int)) then
 (Z2z (x.2.1,r16.2.1,r16.2.2.1,r16.2.2.2.1,r16.2.2.2.2.1,r16.2.2.2.2.2.1,r16.2.2.2.2.2.2)).bind fun r17 =>
 some (r17.1,r17.2.1,r17.2.2.1,r17.2.2.2.1,r17.2.2.2.2.1,r17.2.2.2.2.2.1,r17.2.2.2.2.2.2)
 else
 bif (eqI x.2.1.2.1 (15:Int)) then
 (Z2h (x.2.1,r16.2.1,r16.2.2.1,r16.2.2.2.1,r16.2.2.2.2.1,r16.2.2.2.2.2.1,r16.2.2.2.2.2.2)).bind fun r17 =>
 some (r17.1,r17.2.1,r17.2.2.1,r17.2.2.2.1,r17.2.2.2.2.1,r17.2.2.2.2.2.1,r17.2.2.2.2.2.2)
 else
 some (true,r16.2.1,r16.2.2.1,r16.2.2.2.1,r16.2.2.2.2.1,r16.2.2.2.2.2.1,r16.2.2.2.2.2.2)
 else
 (Z20 (x.1,x.2.1,x.2.2.1,x.2.2.2.1,x.2.2.2.2.1,x.2.2.2.2.2.1,x.2.2.2.2.2.2.1,x.2.2.2.2.2.2.2)).bind fun r14 =>
 bif (Bool.not r14.1) then
 some (false,r14.2.1,r14.2.2.1,r14.2.2.2.1,r14.2.2.2.2.1,r14.2.2.2.2.2.1,r14.2.2.2.2.2.2)
 else
 bif (eqI x.2.1.2.1 (1:Int)) then
 (Z2k (x.2.1,r14.2.1,r14.2.2.1,r14.2.2.2.1,r14.2.2.2.2.1,r14.2.2.2.2.2.1,r14.2.2.2.2.2.2)).bind fun r15 =>
 some (r15.1,r14.2.1,r14.2.2.1,r14.2.2.2.1,r14.2.2.2.2.1,r14.2.2.2.2.2.1,r14.2.2.2.2.2.2)
 else
 bif (eqI x.2.1.2.1 (3:Int)) then
 (Z2n (x.2.1,r14.2.1,r14.2.2.1,r14.2.2.2.1,r14.2.2.2.2.1,r14.2.2.2.2.2.1,r14.2.2.2.2.2.2)).bind fun r15 =>
 some (r15.1,r15.2.1,r15.2.2.1,r15.2.2.2.1,r15.2.2.2.2.1,r15.2.2.2.2.2.1,r15.2.2.2.2.2.2)
 else
 bif (eqI x.2.1.2.1 (5:Int)) then
 (Z2p (x.2.1,r14.2.1,r14.2.2.1,r14.2.2.2.1,r14.2.2.2.2.1,r14.2.2.2.2.2.1,r14.2.2.2.2.2.2)).bind fun r15 =>
 some (r15.1,r15.2.1,r15.2.2.1,r15.2.2.2.1,r15.2.2.2.2.1,r15.2.2.2.2.2.1,r15.2.2.2.2.2.2)
 else
 bif (eqI x.2.1.2.1 (6:Int)) then
 (Z2r (x.2.1,r14.2.1,r14.2.2.1,r14.2.2.2.1,r14.2.2.2.2.1,r14.2.2.2.2.2.1,r14.2.2.2.2.2.2)).bind fun r15 =>
 some (r15.1,r15.2.1,r15.2.2.1,r15.2.2.2.1,r15.2.2.2.2.1,r15.2.2.2.2.2.1,r15.2.2.2.2.2.2)
 else
 bif (eqI x.2.1.2.1 (7:Int)) then
 (Z2t (x.2.1,r14.2.1,r14.2.2.1,r14.2.2.2.1,r14.2.2.2.2.1,r14.2.2.2.2.2.1,r14.2.2.2.2.2.2)).bind fun r15 =>
 some (r15.1,r15.2.1,r15.2.2.1,r15.2.2.2.1,r15.2.2.2.2.1,r15.2.2.2.2.2.1,r15.2.2.2.2.2.2)
 else
 bif (eqI x.2.1.2.1 (11:Int)) then
 (Z2v (x.2.1,r14.2.1,r14.2.2.1,r14.2.2.2.1,r14.2.2.2.2.1,r14.2.2.2.2.2.1,r14.2.2.2.2.2.2)).bind fun r15 =>
 some (r15.1,r15.2.1,r15.2.2.1,r15.2.2.2.1,r15.2.2.2.2.1,r15.2.2.2.2.2.1,r15.2.2.2.2.2.2)
 else
 bif (eqI x.2.1.2.1 (12:Int)) then
 (Z2x (x.2.1,r14.2.1,r14.2.2.1,r14.2.2.2.1,r14.2.2.2.2.1,r14.2.2.2.2.2.1,r14.2.2.2.2.2.2)).bind fun r15 =>
 some (r15.1,r15.2.1,r15.2.2.1,r15.2.2.2.1,r15.2.2.2.2.1,r15.2.2.2.2.2.1,r15.2.2.2.2.2.2)
 else
 bif (eqI x.2.1.2.1 (14:Int)) then
 (Z2z (x.2.1,r14.2.1,r14.2.2.1,r14.2.2.2.1,r14.2.2.2.2.1,r14.2.2.2.2.2.1,r14.2.2.2.2.2.2)).bind fun r15 =>
 some (r15.1,r15.2.1,r15.2.2.1,r15.2.2.2.1,r15.2.2.2.2.1,r15.2.2.2.2.2.1,r15.2.2.2.2.2.2)
 else
 bif (eqI x.2.1.2.1 (15:Int)) then
 (Z2h (x.2.1,r14.2.1,r14.2.2.1,r14.2.2.2.1,r14.2.2.2.2.1,r14.2.2.2.2.2.1,r14.2.2.2.2.2.2)).bind fun r15 =>
 some (r15.1,r15.2.1,r15.2.2.1,r15.2.2.2.1,r15.2.2.2.2.1,r15.2.2.2.2.2.1,r15.2.2.2.2.2.2)
 else
 some (true,r14.2.1,r14.2.2.1,r14.2.2.2.1,r14.2.2.2.2.1,r14.2.2.2.2.2.1,r14.2.2.2.2.2.2)
 else
 none
abbrev Zay:=Spec.shp Z7x Z9g Z2d
def Z5k:Ctx:={ tb:=mkTb T2.tbl,fx:=[(34,[],Zar),(86,[],Spec.thin (Zat)),(87,[],Spec.thin (Zaw)),(88,[],Spec.thin (Zas)),(55,[],Spec.shpR Z81 Z9k Z2k),(56,[],Spec.thin (Zb3)),(58,[],Spec.thin (Zb4)),(59,[],Spec.thin (Zb5)),(60,[],Spec.thin (Zb6)),(61,[],Spec.thin (Zb7)),(62,[],Spec.thin (Zb8)),(63,[],Spec.thin (Zb9)),(64,[],Spec.thin (Zb1))],sum:=[],nt:=106,pin:=7,nr:=true,ys:=[] }
theorem Z2e:Sound Try.prog 65 (Zay) :=
 Sound.shp (C:=Z5k) (fn:=Try.f65) (by kernel_rfl) (c:=bodyOf Try.f65) (by kernel_rfl) (by decide) (ctxOK mixed tbl_ok rfl ⟨Z1z,Z23.thin,Z2a.thin,Z21.thin,Z2m,Z2o.thin,Z2q.thin,Z2s.thin,Z2u.thin,Z2w.thin,Z2y.thin,Z30.thin,Z2i.thin,trivial⟩ trivial) (SumOK.of trivial) (by kernel_rfl) Z7x Z9g rfl (by decide) (by decide) rfl (by decide) rfl Z2d (fun x=>by kernel_rfl)
abbrev Z7t:Shape:={ sl:=sl_2,bl:=bl_0,ts:=ts_1,pin:=0 }
abbrev Z9c:Shape:={ sl:=sl_0,bl:=bl_0,ts:=ts_2,pin:=7 }
def Z24 (x:T14):Option T8 :=
 (Z2d (x.1,x.2.1,x.2.2.1,x.2.2.2.1,x.2.2.2.2.1,x.2.2.2.2.2.1,x.2.2.2.2.2.2.1,x.2.2.2.2.2.2.2)).bind fun r10 =>
 bif (Bool.not r10.1) then
 some (false,r10.2.1,r10.2.2.1,r10.2.2.2.1,r10.2.2.2.2.1,r10.2.2.2.2.2.1,r10.2.2.2.2.2.2)
 else
 bif (inb (natI (@mpos (Int × Int) (Int) (Ty.beq y3) (x.2.1.2.1,x.2.1.2.2.1) r10.2.2.2.2.1)) (List.length (@mput (Int × Int) (Int) (Ty.beq y3) (x.2.1.2.1,x.2.1.2.2.1) (@mlook (Int × Int) (Int) (Ty.beq y3) (Ty.zero (.int .i64)) (x.2.1.2.1,x.2.1.2.2.1) r10.2.2.2.2.1) r10.2.2.2.2.1))) then
 bif (inb x.2.1.1 8) then
 bif (x.2.1.2.1 == (0:Int)) then
 some (true,r10.2.1,(List.set r10.2.2.1 (toN x.2.1.1) (IntKind.wrap .i64 ((((List.length x.1):Nat):Int)+(1:Int)))),(IntKind.wrap .i64 (r10.2.2.2.1+(1:Int))),(mset (@mput (Int × Int) (Int) (Ty.beq y3) (x.2.1.2.1,x.2.1.2.2.1) (@mlook (Int × Int) (Int) (Ty.beq y3) (Ty.zero (.int .i64)) (x.2.1.2.1,x.2.1.2.2.1) r10.2.2.2.2.1) r10.2.2.2.2.1) (toN (natI (@mpos (Int × Int) (Int) (Ty.beq y3) (x.2.1.2.1,x.2.1.2.2.1) r10.2.2.2.2.1))) (IntKind.wrap .i64 ((@mlook (Int × Int) (Int) (Ty.beq y3) (Ty.zero (.int .i64)) (x.2.1.2.1,x.2.1.2.2.1) r10.2.2.2.2.1)+(1:Int)))),r10.2.2.2.2.2.1,r10.2.2.2.2.2.2)
 else
 bif (x.2.1.2.1 == (13:Int)) then
 bif ((@mlook (Int) (Int) (Ty.beq (.int .i64)) (Ty.zero (.int .i64)) x.2.1.2.2.1 r10.2.2.2.2.2.1) == (0:Int)) then
 some (true,r10.2.1,(List.set r10.2.2.1 (toN x.2.1.1) (IntKind.wrap .i64 ((((List.length x.1):Nat):Int)+(1:Int)))),r10.2.2.2.1,(mset (@mput (Int × Int) (Int) (Ty.beq y3) (x.2.1.2.1,x.2.1.2.2.1) (@mlook (Int × Int) (Int) (Ty.beq y3) (Ty.zero (.int .i64)) (x.2.1.2.1,x.2.1.2.2.1) r10.2.2.2.2.1) r10.2.2.2.2.1) (toN (natI (@mpos (Int × Int) (Int) (Ty.beq y3) (x.2.1.2.1,x.2.1.2.2.1) r10.2.2.2.2.1))) (IntKind.wrap .i64 ((@mlook (Int × Int) (Int) (Ty.beq y3) (Ty.zero (.int .i64)) (x.2.1.2.1,x.2.1.2.2.1) r10.2.2.2.2.1)+(1:Int)))),(@mput (Int) (Int) (Ty.beq (.int .i64)) x.2.1.2.2.1 (IntKind.wrap .i64 (x.2.1.1+(1:Int))) r10.2.2.2.2.2.1),r10.2.2.2.2.2.2)
 else
 some (true,r10.2.1,(List.set r10.2.2.1 (toN x.2.1.1) (IntKind.wrap .i64 ((((List.length x.1):Nat):Int)+(1:Int)))),r10.2.2.2.1,(mset (@mput (Int × Int) (Int) (Ty.beq y3) (x.2.1.2.1,x.2.1.2.2.1) (@mlook (Int × Int) (Int) (Ty.beq y3) (Ty.zero (.int .i64)) (x.2.1.2.1,x.2.1.2.2.1) r10.2.2.2.2.1) r10.2.2.2.2.1) (toN (natI (@mpos (Int × Int) (Int) (Ty.beq y3) (x.2.1.2.1,x.2.1.2.2.1) r10.2.2.2.2.1))) (IntKind.wrap .i64 ((@mlook (Int × Int) (Int) (Ty.beq y3) (Ty.zero (.int .i64)) (x.2.1.2.1,x.2.1.2.2.1) r10.2.2.2.2.1)+(1:Int)))),r10.2.2.2.2.2.1,r10.2.2.2.2.2.2)
 else
 some (true,r10.2.1,(List.set r10.2.2.1 (toN x.2.1.1) (IntKind.wrap .i64 ((((List.length x.1):Nat):Int)+(1:Int)))),r10.2.2.2.1,(mset (@mput (Int × Int) (Int) (Ty.beq y3) (x.2.1.2.1,x.2.1.2.2.1) (@mlook (Int × Int) (Int) (Ty.beq y3) (Ty.zero (.int .i64)) (x.2.1.2.1,x.2.1.2.2.1) r10.2.2.2.2.1) r10.2.2.2.2.1) (toN (natI (@mpos (Int × Int) (Int) (Ty.beq y3) (x.2.1.2.1,x.2.1.2.2.1) r10.2.2.2.2.1))) (IntKind.wrap .i64 ((@mlook (Int × Int) (Int) (Ty.beq y3) (Ty.zero (.int .i64)) (x.2.1.2.1,x.2.1.2.2.1) r10.2.2.2.2.1)+(1:Int)))),r10.2.2.2.2.2.1,r10.2.2.2.2.2.2)
 else
 none
 else
 none
abbrev Zau:=Spec.shp Z7t Z9c Z24
def Z5g:Ctx:={ tb:=mkTb T2.tbl,fx:=[(65,[],Spec.thin (Zay))],sum:=[],nt:=64,pin:=7,nr:=true,ys:=[] }
theorem Z25:Sound Try.prog 37 (Zau) :=
 Sound.shp (C:=Z5g) (fn:=Try.f37) (by kernel_rfl) (c:=bodyOf Try.f37) (by kernel_rfl) (by decide) (ctxOK mixed tbl_ok rfl ⟨Z2e.thin,trivial⟩ trivial) (SumOK.of trivial) (by kernel_rfl) Z7t Z9c rfl (by decide) (by decide) rfl (by decide) rfl Z24 (fun x=>by kernel_rfl)
abbrev Z6q:Shape:={ sl:=[(1,(.hole y11)),(6,(.ptr 0 [])),(27,(.hole y11)),(28,(.hole (.int .i64))),(29,(.hole (.int .i64)))],bl:=bl_0,ts:=[y11,y11,(.int .i64),(.int .i64),y0,y1,(.int .i64),(.slice y5),(.slice y3),(.slice y3)],pin:=0 }
abbrev Z6b:List (ETag × Shape):=[(.ret,{ sl:=[(4,(.hole (.int .i64))),(5,(.hole (.int .i64)))],bl:=[],ts:=[(.int .i64),(.int .i64)],pin:=0 }),(.exit 0,{ sl:=[],bl:=[],ts:=[],pin:=0 })]
def Z3w (x:(List (T5) × List (T5) × Int × Int × List Int × List Int × Int × List (T3) × List (Int × Int) × List (Int × Int))):Option ((List (T5) × List (T5) × Int × Int × List Int × List Int × Int × List (T3) × List (Int × Int) × List (Int × Int)) ⊕ ((Int × Int) ⊕ Unit)) :=
 bif (decide (x.2.2.2.1 < x.2.2.1)) then
 bif (inb x.2.2.2.1 (List.length x.2.1)) then
 bif (sub3 (0:Int) x.2.2.2.1 (List.length x.1)) then
 (Z24 ((cut x.1 (toN (0:Int)) ((toN x.2.2.2.1) - (toN (0:Int)))),(getAt ((0:Int),(0:Int),(0:Int),(0:Int),(0:Int)) x.2.1 (toN x.2.2.2.1)),x.2.2.2.2.1,x.2.2.2.2.2.1,x.2.2.2.2.2.2.1,x.2.2.2.2.2.2.2.1,x.2.2.2.2.2.2.2.2.1,x.2.2.2.2.2.2.2.2.2)).bind fun r9 =>
 bif (Bool.not r9.1) then
 some (.inr (.inl (x.2.2.2.1,(0:Int))))
 else
 some (.inl (x.1,x.2.1,x.2.2.1,(IntKind.wrap .i64 (x.2.2.2.1+(1:Int))),r9.2.1,r9.2.2.1,r9.2.2.2.1,r9.2.2.2.2.1,r9.2.2.2.2.2.1,r9.2.2.2.2.2.2))
 else
 none
 else
 none
 else
 some (.inr (.inr ()))
def Z5c:Ctx:={ tb:=mkTb T2.tbl,fx:=[(32,[33],Zan),(35,[],Zba),(36,[],Zaz),(37,[],Spec.thin (Zau))],sum:=[],nt:=43,pin:=0,nr:=true,ys:=[] }
theorem Z3x:CSound Try.prog ⟨43,0,true⟩ (.loop (loopOf 7 Try.f19)) (Yb1 Z6q Z6b (loop Z3w)) :=
 Y8e (C:=Z5c) (ctxOK mixed tbl_ok rfl ⟨Z1r,Z33,Z31,Z25.thin,trivial⟩ trivial) (SumOK.of trivial) Z6q Z6b rfl rfl Z3w (fun x=>by kernel_rfl)
abbrev Z7o:Shape:={ sl:=sl_5,bl:=[],ts:=[y0,y11],pin:=0 }
abbrev Z97:Shape:={ sl:=[(0,(.hole (.int .i64))),(1,(.hole (.int .i64)))],bl:=[],ts:=[(.int .i64),(.int .i64)],pin:=0 }
def Z1u (x:T10):Option (Int × Int) :=
 bif (decide ((((List.length x.1):Nat):Int) > (4:Int))) then
 some ((0:Int),(1:Int))
 else
 (Z1q x.1).bind fun r5 =>
 bif r5 then
 some ((0:Int),(1:Int))
 else
 (Z32 ()).bind fun r6 =>
 (Z2f (x.1,((0:Int) :: ((0:Int) :: ((0:Int) :: ((0:Int) :: ((0:Int) :: ((0:Int) :: ((0:Int) :: ((0:Int) :: ([]:List Int))))))))),(0:Int),([]:List T3),([]:List (Int × Int)),r6)).bind fun r7 =>
 (loop Z3w (x.2,x.2,(((List.length x.2):Nat):Int),(0:Int),r7.1,r7.2.1,r7.2.2.1,r7.2.2.2.1,r7.2.2.2.2.1,r7.2.2.2.2.2)).bind fun r8 =>
 match r8 with
 | .inl y9 =>
 some (y9.1,y9.2)
 | .inr y9 =>
 some ((Int.negSucc 0),(0:Int))
abbrev Zap:=Spec.shp Z7o Z97 Z1u
def Z5a:Ctx:={ tb:=mkTb T2.tbl,fx:=[(32,[33],Zan),(35,[],Zba),(36,[],Zaz),(37,[],Spec.thin (Zau))],sum:=[(0,7,Yb1 Z6q Z6b (loop Z3w))],nt:=43,pin:=0,nr:=true,ys:=[] }
theorem Z1x:Sound Try.prog 19 (Zap) :=
 Sound.shp (C:=Z5a) (fn:=Try.f19) (by kernel_rfl) (c:=bodyOf Try.f19) (by kernel_rfl) (by decide) (ctxOK mixed tbl_ok rfl ⟨Z1r,Z33,Z31,Z25.thin,trivial⟩ trivial) (SumOK.of ⟨(Yb2 (d:=.loop (loopOf 7 Try.f19)) (by kernel_rfl) Z3x),trivial⟩) (by kernel_rfl) Z7o Z97 rfl (by decide) (by decide) rfl (by decide) rfl Z1u (fun x=>by kernel_rfl)
abbrev Z6e:Shape:={ sl:=[(5,(.ptr 0 [])),(16,(.hole y11)),(17,(.hole (.int .i64))),(18,(.hole (.int .i64)))],bl:=bl_3,ts:=[y11,(.int .i64),(.int .i64),y0,(.slice y9),(.slice y3),(.slice y3),(.slice y7),(.slice y3)],pin:=0 }
abbrev Z5z:List (ETag × Shape):=[(.exit 0,{ sl:=[(5,(.ptr 0 []))],bl:=bl_3,ts:=ts_5,pin:=0 })]
def Z38 (x:(List (T5) × Int × Int × List Int × List (T6) × List (Int × Int) × List (Int × Int) × List T1 × List (Int × Int))):Option ((List (T5) × Int × Int × List Int × List (T6) × List (Int × Int) × List (Int × Int) × List T1 × List (Int × Int)) ⊕ (List Int × List (T6) × List (Int × Int) × List (Int × Int) × List T1 × List (Int × Int))) :=
 bif (decide (x.2.2.1 < x.2.1)) then
 bif (inb x.2.2.1 (List.length x.1)) then
 bif ((getAt ((0:Int),(0:Int),(0:Int),(0:Int),(0:Int)) x.1 (toN x.2.2.1)).2.1 == (3:Int)) then
 some (.inl (x.1,x.2.1,(IntKind.wrap .i64 (x.2.2.1+(1:Int))),x.2.2.2.1,(@mput (Int × T0) (Int) (Ty.beq y6) ((getAt ((0:Int),(0:Int),(0:Int),(0:Int),(0:Int)) x.1 (toN x.2.2.1)).2.2.1,(getAt ((0:Int),(0:Int),(0:Int),(0:Int),(0:Int)) x.1 (toN x.2.2.1)).2.2.2.1,((getAt ((0:Int),(0:Int),(0:Int),(0:Int),(0:Int)) x.1 (toN x.2.2.1)).2.1 == (5:Int))) (IntKind.wrap .i64 ((getAt ((0:Int),(0:Int),(0:Int),(0:Int),(0:Int)) x.1 (toN x.2.2.1)).2.2.2.2+(1:Int))) x.2.2.2.2.1),x.2.2.2.2.2.1,x.2.2.2.2.2.2.1,x.2.2.2.2.2.2.2.1,x.2.2.2.2.2.2.2.2))
 else
 bif ((getAt ((0:Int),(0:Int),(0:Int),(0:Int),(0:Int)) x.1 (toN x.2.2.1)).2.1 == (5:Int)) then
 some (.inl (x.1,x.2.1,(IntKind.wrap .i64 (x.2.2.1+(1:Int))),x.2.2.2.1,(@mput (Int × T0) (Int) (Ty.beq y6) ((getAt ((0:Int),(0:Int),(0:Int),(0:Int),(0:Int)) x.1 (toN x.2.2.1)).2.2.1,(getAt ((0:Int),(0:Int),(0:Int),(0:Int),(0:Int)) x.1 (toN x.2.2.1)).2.2.2.1,((getAt ((0:Int),(0:Int),(0:Int),(0:Int),(0:Int)) x.1 (toN x.2.2.1)).2.1 == (5:Int))) (IntKind.wrap .i64 ((getAt ((0:Int),(0:Int),(0:Int),(0:Int),(0:Int)) x.1 (toN x.2.2.1)).2.2.2.2+(1:Int))) x.2.2.2.2.1),x.2.2.2.2.2.1,x.2.2.2.2.2.2.1,x.2.2.2.2.2.2.2.1,x.2.2.2.2.2.2.2.2))
 else
 some (.inl (x.1,x.2.1,(IntKind.wrap .i64 (x.2.2.1+(1:Int))),x.2.2.2.1,x.2.2.2.2.1,x.2.2.2.2.2.1,x.2.2.2.2.2.2.1,x.2.2.2.2.2.2.2.1,x.2.2.2.2.2.2.2.2))
 else
 none
 else
 some (.inr (x.2.2.2.1,x.2.2.2.2.1,x.2.2.2.2.2.1,x.2.2.2.2.2.2.1,x.2.2.2.2.2.2.2.1,x.2.2.2.2.2.2.2.2))
def Z48:Ctx:={ tb:=mkTb T2.tbl,fx:=[],sum:=[],nt:=47,pin:=0,nr:=true,ys:=[] }
theorem Z39:CSound Try.prog ⟨47,0,true⟩ (.loop (loopOf 4 Try.f20)) (Yb1 Z6e Z5z (loop Z38)) :=
 Y8e (C:=Z48) (ctxOK mixed tbl_ok rfl trivial trivial) (SumOK.of trivial) Z6e Z5z rfl rfl Z38 (fun x=>by kernel_rfl)
abbrev Z6y:Shape:={ sl:=sl_5,bl:=[],ts:=[y0,y11],pin:=0 }
abbrev Z8h:Shape:={ sl:=[(0,(.ptr 0 []))],bl:=bl_3,ts:=ts_5,pin:=0 }
def Ze (x:T10):Option (List Int × List (T6) × List (Int × Int) × List (Int × Int) × List T1 × List (Int × Int)) :=
 (loop Z38 (x.2,(((List.length x.2):Nat):Int),(0:Int),x.1,([]:List T6),([]:List (Int × Int)),([]:List (Int × Int)),([]:List (Int × (List Int))),([]:List (Int × Int)))).bind fun r6 =>
 some (r6.1,r6.2.1,r6.2.2.1,r6.2.2.2.1,r6.2.2.2.2.1,r6.2.2.2.2.2)
abbrev Z9z:=Spec.shp Z6y Z8h Ze
def Z47:Ctx:={ tb:=mkTb T2.tbl,fx:=[],sum:=[(0,4,Yb1 Z6e Z5z (loop Z38))],nt:=47,pin:=0,nr:=true,ys:=[] }
theorem Zf:Sound Try.prog 20 (Z9z) :=
 Sound.shp (C:=Z47) (fn:=Try.f20) (by kernel_rfl) (c:=bodyOf Try.f20) (by kernel_rfl) (by decide) (ctxOK mixed tbl_ok rfl trivial trivial) (SumOK.of ⟨(Yb2 (d:=.loop (loopOf 4 Try.f20)) (by kernel_rfl) Z39),trivial⟩) (by kernel_rfl) Z6y Z8h rfl (by decide) (by decide) rfl (by decide) rfl Ze (fun x=>by kernel_rfl)
abbrev Z6w:Shape:={ sl:=sl_4,bl:=bl_3,ts:=ts_6,pin:=0 }
abbrev Z8f:Shape:={ sl:=[(0,(.fn 38 .nil (.cons (.ptr 6 []) (.cons (.ptr 7 []) (.cons (.ptr 8 []) .nil)))))],bl:=[.var (.pr (.hole y0) (.pr (.mp 1) (.pr (.mp 2) (.pr (.mp 3) (.pr (.mp 4) (.mp 5)))))),.mp y6 (.int .i64),.mp (.int .i64) (.int .i64),.mp (.int .i64) (.int .i64),.mo (.int .i64) (.int .i64),.mp (.int .i64) (.int .i64),.var (.ptr 0 []),.var (.hole y10),.var (.hole (.int .i64))],ts:=[y0,(.slice y9),(.slice y3),(.slice y3),(.slice y7),(.slice y3),y10,(.int .i64)],pin:=6 }
def Za (x:(Int × T5 × List Int × List (T6) × List (Int × Int) × List (Int × Int) × List T1 × List (Int × Int))):Option (List Int × List (T6) × List (Int × Int) × List (Int × Int) × List T1 × List (Int × Int) × T5 × Int) :=
 some (x.2.2.1,x.2.2.2.1,x.2.2.2.2.1,x.2.2.2.2.2.1,x.2.2.2.2.2.2.1,x.2.2.2.2.2.2.2,x.2.1,x.1)
abbrev Z9x:=Spec.shp Z6w Z8f Za
def Z44:Ctx:={ tb:=mkTb T2.tbl,fx:=[],sum:=[],nt:=8,pin:=6,nr:=true,ys:=[] }
theorem Zd:Sound Try.prog 21 (Z9x) :=
 Sound.shp (C:=Z44) (fn:=Try.f21) (by kernel_rfl) (c:=bodyOf Try.f21) (by kernel_rfl) (by decide) (ctxOK mixed tbl_ok rfl trivial trivial) (SumOK.of trivial) (by kernel_rfl) Z6w Z8f rfl (by decide) (by decide) rfl (by decide) rfl Za (fun x=>by kernel_rfl)
abbrev Z6s:Shape:={ sl:=[(12,(.ptr 0 [])),(40,(.hole (.int .i64)))],bl:=[.var (.sl 1),.row (.int .i64)],ts:=[(.int .i64),y0],pin:=0 }
abbrev Z8b:Shape:={ sl:=sl_1,bl:=[.var (.sl 1),.row (.int .i64)],ts:=[(.int .i64),y0],pin:=1 }
def Z2 (x:T1):Option T1 :=
 bif (fits ((List.length x.2)+(List.length (x.1 :: ([]:List Int))))) then
 some ((0:Int),(x.2++(x.1 :: ([]:List Int))))
 else
 none
def Z40:Ctx:={ tb:=mkTb T2.tbl,fx:=[],sum:=[],nt:=58,pin:=1,nr:=false,ys:=[] }
theorem Z3:YSound Try.prog 458764 [12] (Spec.rnd [12,40] Z6s Z8b Z2) :=
 YSound.rnd (C:=Z40) (rt:=⟨rfPs (rfOf 12 Try.f7),rfAs (rfOf 12 Try.f7),rfBody (rfOf 12 Try.f7),58⟩) (by kernel_rfl) (ctxOK mixed tbl_ok rfl trivial) (SumOK.of trivial) (SumOK.of trivial) rfl rfl [12] Z6s Z8b rfl (by decide) (by decide) rfl (fun y=>⟨_,rfl⟩) (of_decide_eq_true (by kernel_rfl)) (of_decide_eq_true (by kernel_rfl)) Z2 (fun x=>by kernel_rfl)
abbrev Z6d:Shape:={ sl:=[(0,(.yl 0)),(3,(.ptr 3 [])),(70,(.sl 11)),(71,(.hole (.int .i64))),(72,(.hole (.int .i64)))],bl:=[.lp 458764 [12] (.cons (.ptr 4 []) .nil),.var (.ptr 5 []),.var (.hole y10),.var (.hole (.int .i64)),.var (.sl 12),.var (.pr (.hole y0) (.pr (.mp 6) (.pr (.mp 7) (.pr (.mp 8) (.pr (.mp 9) (.mp 10)))))),.mp y6 (.int .i64),.mp (.int .i64) (.int .i64),.mp (.int .i64) (.int .i64),.mo (.int .i64) (.int .i64),.mp (.int .i64) (.int .i64),.row (.int .i64),.row (.int .i64)],ts:=[(.int .i64),(.int .i64),y10,(.int .i64),y0,(.slice y9),(.slice y3),(.slice y3),(.slice y7),(.slice y3),y0,y0],pin:=11 }
abbrev Z5y:List (ETag × Shape):=[(.ret,{ sl:=[],bl:=bl_4,ts:=ts_7,pin:=11 }),(.exit 1,{ sl:=[],bl:=bl_5,ts:=ts_8,pin:=11 })]
def Z36 (x:(Int × Int × T5 × Int × List Int × List (T6) × List (Int × Int) × List (Int × Int) × List T1 × List (Int × Int) × List Int × List Int)):Option ((Int × Int × T5 × Int × List Int × List (T6) × List (Int × Int) × List (Int × Int) × List T1 × List (Int × Int) × List Int × List Int) ⊕ ((Int × T5 × Int × List Int × List (T6) × List (Int × Int) × List (Int × Int) × List T1 × List (Int × Int) × List Int) ⊕ (T5 × Int × List Int × List (T6) × List (Int × Int) × List (Int × Int) × List T1 × List (Int × Int) × List Int))) :=
 bif (decide (x.2.1 < x.1)) then
 bif (inb x.2.1 (List.length x.2.2.2.2.2.2.2.2.2.2.1)) then
 bif (decide ((getAt (0:Int) x.2.2.2.2.2.2.2.2.2.2.1 (toN x.2.1)) > (0:Int))) then
 bif (decide ((getAt (0:Int) x.2.2.2.2.2.2.2.2.2.2.1 (toN x.2.1)) ≤ x.2.2.2.1)) then
 (Z2 ((IntKind.wrap .i64 ((getAt (0:Int) x.2.2.2.2.2.2.2.2.2.2.1 (toN x.2.1)) - (1:Int))),x.2.2.2.2.2.2.2.2.2.2.2)).bind fun r10 =>
 bif (eqI r10.1 (0:Int)) then
 some (.inl (x.1,(IntKind.wrap .i64 (x.2.1+(1:Int))),x.2.2.1,x.2.2.2.1,x.2.2.2.2.1,x.2.2.2.2.2.1,x.2.2.2.2.2.2.1,x.2.2.2.2.2.2.2.1,x.2.2.2.2.2.2.2.2.1,x.2.2.2.2.2.2.2.2.2.1,x.2.2.2.2.2.2.2.2.2.2.1,r10.2))
 else
 some (.inr (.inl (r10.1,x.2.2.1,x.2.2.2.1,x.2.2.2.2.1,x.2.2.2.2.2.1,x.2.2.2.2.2.2.1,x.2.2.2.2.2.2.2.1,x.2.2.2.2.2.2.2.2.1,x.2.2.2.2.2.2.2.2.2.1,r10.2)))
 else
 some (.inl (x.1,(IntKind.wrap .i64 (x.2.1+(1:Int))),x.2.2.1,x.2.2.2.1,x.2.2.2.2.1,x.2.2.2.2.2.1,x.2.2.2.2.2.2.1,x.2.2.2.2.2.2.2.1,x.2.2.2.2.2.2.2.2.1,x.2.2.2.2.2.2.2.2.2.1,x.2.2.2.2.2.2.2.2.2.2.1,x.2.2.2.2.2.2.2.2.2.2.2))
 else
 some (.inl (x.1,(IntKind.wrap .i64 (x.2.1+(1:Int))),x.2.2.1,x.2.2.2.1,x.2.2.2.2.1,x.2.2.2.2.2.1,x.2.2.2.2.2.2.1,x.2.2.2.2.2.2.2.1,x.2.2.2.2.2.2.2.2.1,x.2.2.2.2.2.2.2.2.2.1,x.2.2.2.2.2.2.2.2.2.2.1,x.2.2.2.2.2.2.2.2.2.2.2))
 else
 none
 else
 some (.inr (.inr (x.2.2.1,x.2.2.2.1,x.2.2.2.2.1,x.2.2.2.2.2.1,x.2.2.2.2.2.2.1,x.2.2.2.2.2.2.2.1,x.2.2.2.2.2.2.2.2.1,x.2.2.2.2.2.2.2.2.2.1,x.2.2.2.2.2.2.2.2.2.2.2)))
def Z46:Ctx:={ tb:=mkTb T2.tbl,fx:=[],sum:=[],nt:=91,pin:=11,nr:=true,ys:=[(458764,[12],Spec.rnd [12,40] { sl:=[(12,(.ptr 0 [])),(40,(.hole (.int .i64)))],bl:=[.var (.sl 1),.row (.int .i64)],ts:=[(.int .i64),(.slice (.int .i64))],pin:=0 } { sl:=[(0,(.hole (.int .i64)))],bl:=[.var (.sl 1),.row (.int .i64)],ts:=[(.int .i64),(.slice (.int .i64))],pin:=1 } Z2)] }
theorem Z37:CSound Try.prog ⟨91,11,true⟩ (.loop (loopOf 15 Try.f38)) (Yb1 Z6d Z5y (loop Z36)) :=
 Y8e (C:=Z46) (ctxOK mixed tbl_ok rfl trivial ⟨Z3,trivial⟩) (SumOK.of trivial) Z6d Z5y rfl rfl Z36 (fun x=>by kernel_rfl)
abbrev Z6u:Shape:={ sl:=[(0,(.ptr 0 [])),(1,(.hole y10))],bl:=bl_3,ts:=[y10,y0,(.slice y9),(.slice y3),(.slice y3),(.slice y7),(.slice y3)],pin:=0 }
abbrev Z8d:Shape:={ sl:=sl_1,bl:=bl_3,ts:=[(.int .i64),y0,(.slice y9),(.slice y3),(.slice y3),(.slice y7),(.slice y3)],pin:=6 }
def Z6 (x:(T5 × List Int × List (T6) × List (Int × Int) × List (Int × Int) × List T1 × List (Int × Int))):Option (Int × List Int × List (T6) × List (Int × Int) × List (Int × Int) × List T1 × List (Int × Int)) :=
 bif (x.1.2.1 == (5:Int)) then
 some ((@mlook (Int × T0) (Int) (Ty.beq y6) (Ty.zero (.int .i64)) (x.1.2.2.1,x.1.2.2.2.1,false) x.2.2.1),x.2.1,x.2.2.1,x.2.2.2.1,x.2.2.2.2.1,x.2.2.2.2.2.1,x.2.2.2.2.2.2)
 else
 bif (inb x.1.2.2.1 (List.length x.2.1)) then
 some ((@mlook (Int × T0) (Int) (Ty.beq y6) (Ty.zero (.int .i64)) (x.1.2.2.1,(IntKind.wrap .i64 (x.1.2.2.2.1 - (getAt (0:Int) x.2.1 (toN x.1.2.2.1)))),true) x.2.2.1),x.2.1,x.2.2.1,x.2.2.2.1,x.2.2.2.2.1,x.2.2.2.2.2.1,x.2.2.2.2.2.2)
 else
 none
abbrev Z9v:=Spec.shp Z6u Z8d Z6
def Z42:Ctx:={ tb:=mkTb T2.tbl,fx:=[],sum:=[],nt:=37,pin:=6,nr:=true,ys:=[] }
theorem Z7:Sound Try.prog 39 (Z9v) :=
 Sound.shp (C:=Z42) (fn:=Try.f39) (by kernel_rfl) (c:=bodyOf Try.f39) (by kernel_rfl) (by decide) (ctxOK mixed tbl_ok rfl trivial trivial) (SumOK.of trivial) (by kernel_rfl) Z6u Z8d rfl (by decide) (by decide) rfl (by decide) rfl Z6 (fun x=>by kernel_rfl)
abbrev Z6x:Shape:={ sl:=[(0,(.yl 0)),(1,(.ptr 1 [])),(2,(.ptr 2 [])),(3,(.ptr 3 []))],bl:=bl_5,ts:=ts_8,pin:=0 }
abbrev Z8g:Shape:={ sl:=[],bl:=bl_4,ts:=ts_7,pin:=11 }
def Zb (x:(T5 × Int × List Int × List (T6) × List (Int × Int) × List (Int × Int) × List T1 × List (Int × Int) × List Int)):Option (Int × T5 × Int × List Int × List (T6) × List (Int × Int) × List (Int × Int) × List T1 × List (Int × Int) × List Int) :=
 bif (x.1.2.1 == (0:Int)) then
 (loop Z36 ((((List.length (((@mlook (Int) (Int) (Ty.beq (.int .i64)) (Ty.zero (.int .i64)) x.1.1 x.2.2.2.2.2.2.2.1) :: ([]:List Int))++((IntKind.wrap .i64 (x.1.2.2.2.2+(1:Int))) :: ([]:List Int)))):Nat):Int),(0:Int),x.1,x.2.1,x.2.2.1,x.2.2.2.1,x.2.2.2.2.1,x.2.2.2.2.2.1,x.2.2.2.2.2.2.1,x.2.2.2.2.2.2.2.1,(((@mlook (Int) (Int) (Ty.beq (.int .i64)) (Ty.zero (.int .i64)) x.1.1 x.2.2.2.2.2.2.2.1) :: ([]:List Int))++((IntKind.wrap .i64 (x.1.2.2.2.2+(1:Int))) :: ([]:List Int))),x.2.2.2.2.2.2.2.2)).bind fun r9 =>
 match r9 with
 | .inl y10 =>
 some (y10.1,y10.2.1,y10.2.2.1,y10.2.2.2.1,y10.2.2.2.2.1,y10.2.2.2.2.2.1,y10.2.2.2.2.2.2.1,y10.2.2.2.2.2.2.2.1,y10.2.2.2.2.2.2.2.2.1,y10.2.2.2.2.2.2.2.2.2)
 | .inr y10 =>
 some ((0:Int),y10.1,y10.2.1,y10.2.2.1,y10.2.2.2.1,y10.2.2.2.2.1,y10.2.2.2.2.2.1,y10.2.2.2.2.2.2.1,y10.2.2.2.2.2.2.2.1,y10.2.2.2.2.2.2.2.2)
 else
 bif (x.1.2.1 == (5:Int)) then
 (Z6 (x.1,x.2.2.1,x.2.2.2.1,x.2.2.2.2.1,x.2.2.2.2.2.1,x.2.2.2.2.2.2.1,x.2.2.2.2.2.2.2.1)).bind fun r9 =>
 (loop Z36 ((((List.length (((@mlook (Int) (Int) (Ty.beq (.int .i64)) (Ty.zero (.int .i64)) x.1.1 x.2.2.2.2.2.2.2.1) :: ([]:List Int))++(r9.1 :: ([]:List Int)))):Nat):Int),(0:Int),x.1,x.2.1,r9.2.1,r9.2.2.1,r9.2.2.2.1,r9.2.2.2.2.1,r9.2.2.2.2.2.1,r9.2.2.2.2.2.2,(((@mlook (Int) (Int) (Ty.beq (.int .i64)) (Ty.zero (.int .i64)) x.1.1 x.2.2.2.2.2.2.2.1) :: ([]:List Int))++(r9.1 :: ([]:List Int))),x.2.2.2.2.2.2.2.2)).bind fun r10 =>
 match r10 with
 | .inl y11 =>
 some (y11.1,y11.2.1,y11.2.2.1,y11.2.2.2.1,y11.2.2.2.2.1,y11.2.2.2.2.2.1,y11.2.2.2.2.2.2.1,y11.2.2.2.2.2.2.2.1,y11.2.2.2.2.2.2.2.2.1,y11.2.2.2.2.2.2.2.2.2)
 | .inr y11 =>
 some ((0:Int),y11.1,y11.2.1,y11.2.2.1,y11.2.2.2.1,y11.2.2.2.2.1,y11.2.2.2.2.2.1,y11.2.2.2.2.2.2.1,y11.2.2.2.2.2.2.2.1,y11.2.2.2.2.2.2.2.2)
 else
 bif (x.1.2.1 == (3:Int)) then
 (Z6 (x.1,x.2.2.1,x.2.2.2.1,x.2.2.2.2.1,x.2.2.2.2.2.1,x.2.2.2.2.2.2.1,x.2.2.2.2.2.2.2.1)).bind fun r9 =>
 (loop Z36 ((((List.length (((@mlook (Int) (Int) (Ty.beq (.int .i64)) (Ty.zero (.int .i64)) x.1.1 x.2.2.2.2.2.2.2.1) :: ([]:List Int))++(r9.1 :: ([]:List Int)))):Nat):Int),(0:Int),x.1,x.2.1,r9.2.1,r9.2.2.1,r9.2.2.2.1,r9.2.2.2.2.1,r9.2.2.2.2.2.1,r9.2.2.2.2.2.2,(((@mlook (Int) (Int) (Ty.beq (.int .i64)) (Ty.zero (.int .i64)) x.1.1 x.2.2.2.2.2.2.2.1) :: ([]:List Int))++(r9.1 :: ([]:List Int))),x.2.2.2.2.2.2.2.2)).bind fun r10 =>
 match r10 with
 | .inl y11 =>
 some (y11.1,y11.2.1,y11.2.2.1,y11.2.2.2.1,y11.2.2.2.2.1,y11.2.2.2.2.2.1,y11.2.2.2.2.2.2.1,y11.2.2.2.2.2.2.2.1,y11.2.2.2.2.2.2.2.2.1,y11.2.2.2.2.2.2.2.2.2)
 | .inr y11 =>
 some ((0:Int),y11.1,y11.2.1,y11.2.2.1,y11.2.2.2.1,y11.2.2.2.2.1,y11.2.2.2.2.2.1,y11.2.2.2.2.2.2.1,y11.2.2.2.2.2.2.2.1,y11.2.2.2.2.2.2.2.2)
 else
 bif (x.1.2.1 == (6:Int)) then
 (loop Z36 ((((List.length (((@mlook (Int) (Int) (Ty.beq (.int .i64)) (Ty.zero (.int .i64)) x.1.1 x.2.2.2.2.2.2.2.1) :: ([]:List Int))++((@mlook (Int) (Int) (Ty.beq (.int .i64)) (Ty.zero (.int .i64)) x.1.2.2.1 x.2.2.2.2.1) :: ([]:List Int)))):Nat):Int),(0:Int),x.1,x.2.1,x.2.2.1,x.2.2.2.1,x.2.2.2.2.1,x.2.2.2.2.2.1,x.2.2.2.2.2.2.1,x.2.2.2.2.2.2.2.1,(((@mlook (Int) (Int) (Ty.beq (.int .i64)) (Ty.zero (.int .i64)) x.1.1 x.2.2.2.2.2.2.2.1) :: ([]:List Int))++((@mlook (Int) (Int) (Ty.beq (.int .i64)) (Ty.zero (.int .i64)) x.1.2.2.1 x.2.2.2.2.1) :: ([]:List Int))),x.2.2.2.2.2.2.2.2)).bind fun r9 =>
 match r9 with
 | .inl y10 =>
 some (y10.1,y10.2.1,y10.2.2.1,y10.2.2.2.1,y10.2.2.2.2.1,y10.2.2.2.2.2.1,y10.2.2.2.2.2.2.1,y10.2.2.2.2.2.2.2.1,y10.2.2.2.2.2.2.2.2.1,y10.2.2.2.2.2.2.2.2.2)
 | .inr y10 =>
 some ((0:Int),y10.1,y10.2.1,y10.2.2.1,y10.2.2.2.1,y10.2.2.2.2.1,y10.2.2.2.2.2.1,y10.2.2.2.2.2.2.1,y10.2.2.2.2.2.2.2.1,y10.2.2.2.2.2.2.2.2)
 else
 bif (x.1.2.1 == (11:Int)) then
 bif (@mhas (Int) (List Int) (Ty.beq (.int .i64)) x.1.2.2.1 x.2.2.2.2.2.2.1) then
 bif (fits ((List.length ((@mlook (Int) (Int) (Ty.beq (.int .i64)) (Ty.zero (.int .i64)) x.1.1 x.2.2.2.2.2.2.2.1) :: ([]:List Int)))+(List.length (@mlook (Int) (List Int) (Ty.beq (.int .i64)) [] x.1.2.2.1 x.2.2.2.2.2.2.1)))) then
 (loop Z36 ((((List.length (((@mlook (Int) (Int) (Ty.beq (.int .i64)) (Ty.zero (.int .i64)) x.1.1 x.2.2.2.2.2.2.2.1) :: ([]:List Int))++(@mlook (Int) (List Int) (Ty.beq (.int .i64)) [] x.1.2.2.1 x.2.2.2.2.2.2.1))):Nat):Int),(0:Int),x.1,x.2.1,x.2.2.1,x.2.2.2.1,x.2.2.2.2.1,x.2.2.2.2.2.1,(mset x.2.2.2.2.2.2.1 (@mpos (Int) (List Int) (Ty.beq (.int .i64)) x.1.2.2.1 x.2.2.2.2.2.2.1) (@mlook (Int) (List Int) (Ty.beq (.int .i64)) [] x.1.2.2.1 x.2.2.2.2.2.2.1)),x.2.2.2.2.2.2.2.1,(((@mlook (Int) (Int) (Ty.beq (.int .i64)) (Ty.zero (.int .i64)) x.1.1 x.2.2.2.2.2.2.2.1) :: ([]:List Int))++(@mlook (Int) (List Int) (Ty.beq (.int .i64)) [] x.1.2.2.1 x.2.2.2.2.2.2.1)),x.2.2.2.2.2.2.2.2)).bind fun r9 =>
 match r9 with
 | .inl y10 =>
 some (y10.1,y10.2.1,y10.2.2.1,y10.2.2.2.1,y10.2.2.2.2.1,y10.2.2.2.2.2.1,y10.2.2.2.2.2.2.1,y10.2.2.2.2.2.2.2.1,y10.2.2.2.2.2.2.2.2.1,y10.2.2.2.2.2.2.2.2.2)
 | .inr y10 =>
 some ((0:Int),y10.1,y10.2.1,y10.2.2.1,y10.2.2.2.1,y10.2.2.2.2.1,y10.2.2.2.2.2.1,y10.2.2.2.2.2.2.1,y10.2.2.2.2.2.2.2.1,y10.2.2.2.2.2.2.2.2)
 else
 none
 else
 (loop Z36 ((((List.length (((@mlook (Int) (Int) (Ty.beq (.int .i64)) (Ty.zero (.int .i64)) x.1.1 x.2.2.2.2.2.2.2.1) :: ([]:List Int))++([]:List Int))):Nat):Int),(0:Int),x.1,x.2.1,x.2.2.1,x.2.2.2.1,x.2.2.2.2.1,x.2.2.2.2.2.1,x.2.2.2.2.2.2.1,x.2.2.2.2.2.2.2.1,(((@mlook (Int) (Int) (Ty.beq (.int .i64)) (Ty.zero (.int .i64)) x.1.1 x.2.2.2.2.2.2.2.1) :: ([]:List Int))++([]:List Int)),x.2.2.2.2.2.2.2.2)).bind fun r9 =>
 match r9 with
 | .inl y10 =>
 some (y10.1,y10.2.1,y10.2.2.1,y10.2.2.2.1,y10.2.2.2.2.1,y10.2.2.2.2.2.1,y10.2.2.2.2.2.2.1,y10.2.2.2.2.2.2.2.1,y10.2.2.2.2.2.2.2.2.1,y10.2.2.2.2.2.2.2.2.2)
 | .inr y10 =>
 some ((0:Int),y10.1,y10.2.1,y10.2.2.1,y10.2.2.2.1,y10.2.2.2.2.1,y10.2.2.2.2.2.1,y10.2.2.2.2.2.2.1,y10.2.2.2.2.2.2.2.1,y10.2.2.2.2.2.2.2.2)
 else
 bif (x.1.2.1 == (15:Int)) then
 (loop Z36 ((((List.length (((@mlook (Int) (Int) (Ty.beq (.int .i64)) (Ty.zero (.int .i64)) x.1.1 x.2.2.2.2.2.2.2.1) :: ([]:List Int))++((@mlook (Int) (Int) (Ty.beq (.int .i64)) (Ty.zero (.int .i64)) x.1.2.2.1 x.2.2.2.2.2.1) :: ([]:List Int)))):Nat):Int),(0:Int),x.1,x.2.1,x.2.2.1,x.2.2.2.1,x.2.2.2.2.1,x.2.2.2.2.2.1,x.2.2.2.2.2.2.1,x.2.2.2.2.2.2.2.1,(((@mlook (Int) (Int) (Ty.beq (.int .i64)) (Ty.zero (.int .i64)) x.1.1 x.2.2.2.2.2.2.2.1) :: ([]:List Int))++((@mlook (Int) (Int) (Ty.beq (.int .i64)) (Ty.zero (.int .i64)) x.1.2.2.1 x.2.2.2.2.2.1) :: ([]:List Int))),x.2.2.2.2.2.2.2.2)).bind fun r9 =>
 match r9 with
 | .inl y10 =>
 some (y10.1,y10.2.1,y10.2.2.1,y10.2.2.2.1,y10.2.2.2.2.1,y10.2.2.2.2.2.1,y10.2.2.2.2.2.2.1,y10.2.2.2.2.2.2.2.1,y10.2.2.2.2.2.2.2.2.1,y10.2.2.2.2.2.2.2.2.2)
 | .inr y10 =>
 some ((0:Int),y10.1,y10.2.1,y10.2.2.1,y10.2.2.2.1,y10.2.2.2.2.1,y10.2.2.2.2.2.1,y10.2.2.2.2.2.2.1,y10.2.2.2.2.2.2.2.1,y10.2.2.2.2.2.2.2.2)
 else
 (loop Z36 ((((List.length ((@mlook (Int) (Int) (Ty.beq (.int .i64)) (Ty.zero (.int .i64)) x.1.1 x.2.2.2.2.2.2.2.1) :: ([]:List Int))):Nat):Int),(0:Int),x.1,x.2.1,x.2.2.1,x.2.2.2.1,x.2.2.2.2.1,x.2.2.2.2.2.1,x.2.2.2.2.2.2.1,x.2.2.2.2.2.2.2.1,((@mlook (Int) (Int) (Ty.beq (.int .i64)) (Ty.zero (.int .i64)) x.1.1 x.2.2.2.2.2.2.2.1) :: ([]:List Int)),x.2.2.2.2.2.2.2.2)).bind fun r9 =>
 match r9 with
 | .inl y10 =>
 some (y10.1,y10.2.1,y10.2.2.1,y10.2.2.2.1,y10.2.2.2.2.1,y10.2.2.2.2.2.1,y10.2.2.2.2.2.2.1,y10.2.2.2.2.2.2.2.1,y10.2.2.2.2.2.2.2.2.1,y10.2.2.2.2.2.2.2.2.2)
 | .inr y10 =>
 some ((0:Int),y10.1,y10.2.1,y10.2.2.1,y10.2.2.2.1,y10.2.2.2.2.1,y10.2.2.2.2.2.1,y10.2.2.2.2.2.2.1,y10.2.2.2.2.2.2.2.1,y10.2.2.2.2.2.2.2.2)
abbrev Z9y:=Spec.shp Z6x Z8g Zb
def Z45:Ctx:={ tb:=mkTb T2.tbl,fx:=[(39,[],Z9v)],sum:=[(0,15,Yb1 Z6d Z5y (loop Z36))],nt:=91,pin:=11,nr:=true,ys:=[(458764,[12],Spec.rnd [12,40] Z6s Z8b Z2)] }
theorem Zc:Sound Try.prog 38 (Z9y) :=
 Sound.shp (C:=Z45) (fn:=Try.f38) (by kernel_rfl) (c:=bodyOf Try.f38) (by kernel_rfl) (by decide) (ctxOK mixed tbl_ok rfl ⟨Z7,trivial⟩ ⟨Z3,trivial⟩) (SumOK.of ⟨(Yb2 (d:=.loop (loopOf 15 Try.f38)) (by kernel_rfl) Z37),trivial⟩) (by kernel_rfl) Z6x Z8g rfl (by decide) (by decide) rfl (by decide) rfl Zb (fun x=>by kernel_rfl)
abbrev Z6v:Shape:={ sl:=sl_4,bl:=bl_3,ts:=ts_6,pin:=0 }
abbrev Z8e:Shape:={ sl:=[],bl:=bl_3,ts:=ts_5,pin:=6 }
def Z8 (x:(Int × T5 × List Int × List (T6) × List (Int × Int) × List (Int × Int) × List T1 × List (Int × Int))):Option (List Int × List (T6) × List (Int × Int) × List (Int × Int) × List T1 × List (Int × Int)) :=
 bif (x.2.1.2.1 == (7:Int)) then
 some (x.2.2.1,x.2.2.2.1,(@mput (Int) (Int) (Ty.beq (.int .i64)) x.2.1.2.2.1 (IntKind.wrap .i64 (x.1+(1:Int))) x.2.2.2.2.1),x.2.2.2.2.2.1,x.2.2.2.2.2.2.1,(@mput (Int) (Int) (Ty.beq (.int .i64)) x.2.1.1 (IntKind.wrap .i64 (x.1+(1:Int))) x.2.2.2.2.2.2.2))
 else
 bif (x.2.1.2.1 == (14:Int)) then
 some (x.2.2.1,x.2.2.2.1,x.2.2.2.2.1,(@mput (Int) (Int) (Ty.beq (.int .i64)) x.2.1.2.2.1 (IntKind.wrap .i64 (x.1+(1:Int))) x.2.2.2.2.2.1),x.2.2.2.2.2.2.1,(@mput (Int) (Int) (Ty.beq (.int .i64)) x.2.1.1 (IntKind.wrap .i64 (x.1+(1:Int))) x.2.2.2.2.2.2.2))
 else
 bif (x.2.1.2.1 == (12:Int)) then
 bif (@mhas (Int) (List Int) (Ty.beq (.int .i64)) x.2.1.2.2.1 x.2.2.2.2.2.2.1) then
 bif (fits ((List.length (@mlook (Int) (List Int) (Ty.beq (.int .i64)) [] x.2.1.2.2.1 x.2.2.2.2.2.2.1))+(List.length ((IntKind.wrap .i64 (x.1+(1:Int))) :: ([]:List Int))))) then
 bif (Nat.beq (@mpos (Int) (List Int) (Ty.beq (.int .i64)) x.2.1.2.2.1 x.2.2.2.2.2.2.1) (@mpos (Int) (List Int) (Ty.beq (.int .i64)) x.2.1.2.2.1 x.2.2.2.2.2.2.1)) then
 some (x.2.2.1,x.2.2.2.1,x.2.2.2.2.1,x.2.2.2.2.2.1,(@mput (Int) (List Int) (Ty.beq (.int .i64)) x.2.1.2.2.1 ((@mlook (Int) (List Int) (Ty.beq (.int .i64)) [] x.2.1.2.2.1 x.2.2.2.2.2.2.1)++((IntKind.wrap .i64 (x.1+(1:Int))) :: ([]:List Int))) x.2.2.2.2.2.2.1),(@mput (Int) (Int) (Ty.beq (.int .i64)) x.2.1.1 (IntKind.wrap .i64 (x.1+(1:Int))) x.2.2.2.2.2.2.2))
 else
 none
 else
 none
 else
 some (x.2.2.1,x.2.2.2.1,x.2.2.2.2.1,x.2.2.2.2.2.1,(@mput (Int) (List Int) (Ty.beq (.int .i64)) x.2.1.2.2.1 ((IntKind.wrap .i64 (x.1+(1:Int))) :: ([]:List Int)) x.2.2.2.2.2.2.1),(@mput (Int) (Int) (Ty.beq (.int .i64)) x.2.1.1 (IntKind.wrap .i64 (x.1+(1:Int))) x.2.2.2.2.2.2.2))
 else
 some (x.2.2.1,x.2.2.2.1,x.2.2.2.2.1,x.2.2.2.2.2.1,x.2.2.2.2.2.2.1,(@mput (Int) (Int) (Ty.beq (.int .i64)) x.2.1.1 (IntKind.wrap .i64 (x.1+(1:Int))) x.2.2.2.2.2.2.2))
abbrev Z9w:=Spec.shp Z6v Z8e Z8
def Z43:Ctx:={ tb:=mkTb T2.tbl,fx:=[],sum:=[],nt:=55,pin:=6,nr:=true,ys:=[] }
theorem Z9:Sound Try.prog 24 (Z9w) :=
 Sound.shp (C:=Z43) (fn:=Try.f24) (by kernel_rfl) (c:=bodyOf Try.f24) (by kernel_rfl) (by decide) (ctxOK mixed tbl_ok rfl trivial trivial) (SumOK.of trivial) (by kernel_rfl) Z6v Z8e rfl (by decide) (by decide) rfl (by decide) rfl Z8 (fun x=>by kernel_rfl)
abbrev Z6c:Shape:={ sl:=[(8,(.ptr 0 [])),(9,(.sl 6)),(29,(.hole y11)),(30,(.hole (.int .i64))),(31,(.hole (.int .i64)))],bl:=[.var (.pr (.hole y0) (.pr (.mp 1) (.pr (.mp 2) (.pr (.mp 3) (.pr (.mp 4) (.mp 5)))))),.mp y6 (.int .i64),.mp (.int .i64) (.int .i64),.mp (.int .i64) (.int .i64),.mo (.int .i64) (.int .i64),.mp (.int .i64) (.int .i64),.row y0],ts:=[y11,(.int .i64),(.int .i64),y0,(.slice y9),(.slice y3),(.slice y3),(.slice y7),(.slice y3),(.slice y0)],pin:=0 }
abbrev Z5x:List (ETag × Shape):=[(.ret,{ sl:=[],bl:=[],ts:=[],pin:=0 }),(.exit 0,{ sl:=[(9,(.sl 0))],bl:=[.row y0],ts:=[(.slice y0)],pin:=0 })]
def Z34 (x:(List (T5) × Int × Int × List Int × List (T6) × List (Int × Int) × List (Int × Int) × List T1 × List (Int × Int) × List (List Int))):Option ((List (T5) × Int × Int × List Int × List (T6) × List (Int × Int) × List (Int × Int) × List T1 × List (Int × Int) × List (List Int)) ⊕ (Unit ⊕ (List (List Int)))) :=
 bif (decide (x.2.2.1 < x.2.1)) then
 bif (inb x.2.2.1 (List.length x.1)) then
 (Za (x.2.2.1,(getAt ((0:Int),(0:Int),(0:Int),(0:Int),(0:Int)) x.1 (toN x.2.2.1)),x.2.2.2.1,x.2.2.2.2.1,x.2.2.2.2.2.1,x.2.2.2.2.2.2.1,x.2.2.2.2.2.2.2.1,x.2.2.2.2.2.2.2.2.1)).bind fun r7 =>
 (Zb (r7.2.2.2.2.2.2.1,r7.2.2.2.2.2.2.2,r7.1,r7.2.1,r7.2.2.1,r7.2.2.2.1,r7.2.2.2.2.1,r7.2.2.2.2.2.1,([]:List Int))).bind fun r8 =>
 bif (eqI r8.1 (0:Int)) then
 bif (fits (List.length r8.2.2.2.2.2.2.2.2.2)) then
 bif (fits (List.length (Ydv r8.2.2.2.2.2.2.2.2.2 (0:Nat) (List.length r8.2.2.2.2.2.2.2.2.2)))) then
 bif (fits ((List.length x.2.2.2.2.2.2.2.2.2)+(List.length ((Y3k (Ydv r8.2.2.2.2.2.2.2.2.2 (0:Nat) (List.length r8.2.2.2.2.2.2.2.2.2))) :: ([]:List (List Int)))))) then
 (Z8 (x.2.2.1,(getAt ((0:Int),(0:Int),(0:Int),(0:Int),(0:Int)) x.1 (toN x.2.2.1)),r8.2.2.2.1,r8.2.2.2.2.1,r8.2.2.2.2.2.1,r8.2.2.2.2.2.2.1,r8.2.2.2.2.2.2.2.1,r8.2.2.2.2.2.2.2.2.1)).bind fun r9 =>
 some (.inl (x.1,x.2.1,(IntKind.wrap .i64 (x.2.2.1+(1:Int))),r9.1,r9.2.1,r9.2.2.1,r9.2.2.2.1,r9.2.2.2.2.1,r9.2.2.2.2.2,(x.2.2.2.2.2.2.2.2.2++((Y3k (Ydv r8.2.2.2.2.2.2.2.2.2 (0:Nat) (List.length r8.2.2.2.2.2.2.2.2.2))) :: ([]:List (List Int))))))
 else
 none
 else
 none
 else
 none
 else
 bif (eqI r8.1 (1:Int)) then
 some (.inr (.inl ()))
 else
 none
 else
 none
 else
 some (.inr (.inr x.2.2.2.2.2.2.2.2.2))
def Z3z:Ctx:={ tb:=mkTb T2.tbl,fx:=[(19,[],Zap),(20,[],Z9z),(21,[],Z9x),(22,[2000000],Ydx),(23,[2000000],Y3n),(24,[],Z9w)],sum:=[(3,12,Ybg (rfF (rfOf 12 Try.f7)) 458764 [12] [] [(38,[1458764],Z9y)])],nt:=58,pin:=0,nr:=true,ys:=[] }
theorem Z35:CSound Try.prog ⟨58,0,true⟩ (.loop (loopOf 8 Try.f7)) (Yb1 Z6c Z5x (loop Z34)) :=
 Y8e (C:=Z3z) (ctxOK mixed tbl_ok rfl ⟨Z1x,Zf,Zd,Y7,Y6,Z9,trivial⟩ trivial) (SumOK.of ⟨(Yb2 (d:=rfOf 12 Try.f7) (by kernel_rfl) (Ybi (c:=rfOf 12 Try.f7) rfl (by kernel_rfl) Zc [12] [])),trivial⟩) Z6c Z5x rfl rfl Z34 (fun x=>by kernel_rfl)
abbrev Z6r:Shape:={ sl:=sl_5,bl:=[],ts:=[y0,y11],pin:=0 }
abbrev Z8a:Shape:={ sl:=[(0,(.hole (.slice y0))),(1,(.hole (.int .i64)))],bl:=[],ts:=[(.slice y0),(.int .i64)],pin:=0 }
def Z0 (x:T10):Option (List (List Int) × Int) :=
 (Z1u (x.1,x.2)).bind fun r4 =>
 bif (r4.2 != (0:Int)) then
 some (([]:List (List Int)),(1:Int))
 else
 bif (decide (r4.1 ≥ (0:Int))) then
 some (([]:List (List Int)),(1:Int))
 else
 (Ze (x.1,x.2)).bind fun r5 =>
 (loop Z34 (x.2,(((List.length x.2):Nat):Int),(0:Int),r5.1,r5.2.1,r5.2.2.1,r5.2.2.2.1,r5.2.2.2.2.1,r5.2.2.2.2.2,([]:List (List Int)))).bind fun r6 =>
 match r6 with
 | .inl y7 =>
 none
 | .inr y7 =>
 some (y7,(0:Int))
abbrev Z9t:=Spec.shp Z6r Z8a Z0
def Z3y:Ctx:={ tb:=mkTb T2.tbl,fx:=[(19,[],Zap),(20,[],Z9z),(21,[],Z9x),(22,[2000000],Ydx),(23,[2000000],Y3n),(24,[],Z9w)],sum:=[(3,12,Ybg (rfF (rfOf 12 Try.f7)) 458764 [12] [] [(38,[1458764],Z9y)]),(0,8,Yb1 Z6c Z5x (loop Z34))],nt:=58,pin:=0,nr:=true,ys:=[] }
theorem Z1:Sound Try.prog 7 (Z9t) :=
 Sound.shp (C:=Z3y) (fn:=Try.f7) (by kernel_rfl) (c:=bodyOf Try.f7) (by kernel_rfl) (by decide) (ctxOK mixed tbl_ok rfl ⟨Z1x,Zf,Zd,Y7,Y6,Z9,trivial⟩ trivial) (SumOK.of ⟨(Yb2 (d:=rfOf 12 Try.f7) (by kernel_rfl) (Ybi (c:=rfOf 12 Try.f7) rfl (by kernel_rfl) Zc [12] [])),(Yb2 (d:=.loop (loopOf 8 Try.f7)) (by kernel_rfl) Z35),trivial⟩) (by kernel_rfl) Z6r Z8a rfl (by decide) (by decide) rfl (by decide) rfl Z0 (fun x=>by kernel_rfl)
abbrev Z6t:Shape:={ sl:=sl_6,bl:=[],ts:=ts_9,pin:=0 }
abbrev Z8c:Shape:={ sl:=[(0,(.hole y0)),(1,(.hole (.int .i64)))],bl:=[],ts:=[y0,(.int .i64)],pin:=0 }
def Z4 (x:T11):Option (List Int × Int) :=
 (Z0 (x.1,x.2.1)).bind fun r3 =>
 bif (r3.2 != (0:Int)) then
 some (([]:List Int),r3.2)
 else
 bif (decide (x.2.2 < (0:Int))) then
 some (([]:List Int),(3:Int))
 else
 bif (decide (x.2.2 ≥ (((List.length x.2.1):Nat):Int))) then
 some (([]:List Int),(3:Int))
 else
 bif (inb x.2.2 (List.length r3.1)) then
 some ((getAt ([]:List Int) r3.1 (toN x.2.2)),(0:Int))
 else
 none
abbrev Z9u:=Spec.shp Z6t Z8c Z4
def Z41:Ctx:={ tb:=mkTb T2.tbl,fx:=[(7,[],Z9t)],sum:=[],nt:=33,pin:=0,nr:=true,ys:=[] }
theorem Z5:Sound Try.prog 6 (Z9u) :=
 Sound.shp (C:=Z41) (fn:=Try.f6) (by kernel_rfl) (c:=bodyOf Try.f6) (by kernel_rfl) (by decide) (ctxOK mixed tbl_ok rfl ⟨Z1,trivial⟩ trivial) (SumOK.of trivial) (by kernel_rfl) Z6t Z8c rfl (by decide) (by decide) rfl (by decide) rfl Z4 (fun x=>by kernel_rfl)
abbrev Z6h:Shape:={ sl:=[(0,(.hole y0)),(5,(.hole y0)),(6,(.hole (.int .i64))),(7,(.hole (.int .i64)))],bl:=[],ts:=[y0,y0,(.int .i64),(.int .i64)],pin:=0 }
abbrev Z62:List (ETag × Shape):=[(.ret,{ sl:=[(2,(.hole .bool))],bl:=[],ts:=[.bool],pin:=0 }),(.exit 0,{ sl:=[(0,(.hole y0))],bl:=[],ts:=[y0],pin:=0 })]
def Z3e (x:T4):Option (T4 ⊕ ((Bool) ⊕ (List Int))) :=
 bif (decide (x.2.2.2 < x.2.2.1)) then
 bif (inb x.2.2.2 (List.length x.2.1)) then
 bif (decide ((getAt (0:Int) x.2.1 (toN x.2.2.2)) < (Int.negSucc 0))) then
 some (.inr (.inl false))
 else
 bif (decide ((getAt (0:Int) x.2.1 (toN x.2.2.2)) > (3:Int))) then
 some (.inr (.inl false))
 else
 some (.inl (x.1,x.2.1,x.2.2.1,(IntKind.wrap .i64 (x.2.2.2+(1:Int)))))
 else
 none
 else
 some (.inr (.inr x.1))
def Z4g:Ctx:={ tb:=mkTb T2.tbl,fx:=[],sum:=[],nt:=21,pin:=0,nr:=true,ys:=[] }
theorem Z3f:CSound Try.prog ⟨21,0,true⟩ (.loop (loopOf 3 Try.f25)) (Yb1 Z6h Z62 (loop Z3e)) :=
 Y8e (C:=Z4g) (ctxOK mixed tbl_ok rfl trivial trivial) (SumOK.of trivial) Z6h Z62 rfl rfl Z3e (fun x=>by kernel_rfl)
abbrev Z72:Shape:={ sl:=[(0,(.hole y0))],bl:=[],ts:=[y0],pin:=0 }
abbrev Z8l:Shape:={ sl:=sl_0,bl:=[],ts:=[.bool],pin:=0 }
def Zm (x:(List Int)):Option (Bool) :=
 (loop Z3e (x,x,(((List.length x):Nat):Int),(0:Int))).bind fun r6 =>
 match r6 with
 | .inl y7 =>
 some y7
 | .inr y7 =>
 some (decide ((((List.length y7):Nat):Int) ≤ (4:Int)))
abbrev Za3:=Spec.shp Z72 Z8l Zm
def Z4f:Ctx:={ tb:=mkTb T2.tbl,fx:=[],sum:=[(0,3,Yb1 Z6h Z62 (loop Z3e))],nt:=21,pin:=0,nr:=true,ys:=[] }
theorem Zn:Sound Try.prog 25 (Za3) :=
 Sound.shp (C:=Z4f) (fn:=Try.f25) (by kernel_rfl) (c:=bodyOf Try.f25) (by kernel_rfl) (by decide) (ctxOK mixed tbl_ok rfl trivial trivial) (SumOK.of ⟨(Yb2 (d:=.loop (loopOf 3 Try.f25)) (by kernel_rfl) Z3f),trivial⟩) (by kernel_rfl) Z72 Z8l rfl (by decide) (by decide) rfl (by decide) rfl Zm (fun x=>by kernel_rfl)
abbrev Z7g:Shape:={ sl:=sl_7,bl:=[],ts:=[y11,(.int .i64)],pin:=0 }
abbrev Z8z:Shape:={ sl:=sl_0,bl:=[],ts:=[.bool],pin:=0 }
def Z1e (x:T9):Option (Bool) :=
 bif (inb x.2 (List.length x.1)) then
 bif (decide ((getAt ((0:Int),(0:Int),(0:Int),(0:Int),(0:Int)) x.1 (toN x.2)).1 < (0:Int))) then
 some true
 else
 bif (decide ((getAt ((0:Int),(0:Int),(0:Int),(0:Int),(0:Int)) x.1 (toN x.2)).1 > (7:Int))) then
 some true
 else
 bif (decide ((getAt ((0:Int),(0:Int),(0:Int),(0:Int),(0:Int)) x.1 (toN x.2)).2.1 < (0:Int))) then
 some true
 else
 bif (decide ((getAt ((0:Int),(0:Int),(0:Int),(0:Int),(0:Int)) x.1 (toN x.2)).2.1 > (17:Int))) then
 some true
 else
 bif (decide ((getAt ((0:Int),(0:Int),(0:Int),(0:Int),(0:Int)) x.1 (toN x.2)).2.2.2.1 < (0:Int))) then
 some true
 else
 bif (decide ((getAt ((0:Int),(0:Int),(0:Int),(0:Int),(0:Int)) x.1 (toN x.2)).2.2.2.2 < (Int.negSucc 0))) then
 some true
 else
 some (decide ((getAt ((0:Int),(0:Int),(0:Int),(0:Int),(0:Int)) x.1 (toN x.2)).2.2.2.2 ≥ x.2))
 else
 none
abbrev Zah:=Spec.shp Z7g Z8z Z1e
def Z4z:Ctx:={ tb:=mkTb T2.tbl,fx:=[],sum:=[],nt:=44,pin:=0,nr:=true,ys:=[] }
theorem Z1f:Sound Try.prog 77 (Zah) :=
 Sound.shp (C:=Z4z) (fn:=Try.f77) (by kernel_rfl) (c:=bodyOf Try.f77) (by kernel_rfl) (by decide) (ctxOK mixed tbl_ok rfl trivial trivial) (SumOK.of trivial) (by kernel_rfl) Z7g Z8z rfl (by decide) (by decide) rfl (by decide) rfl Z1e (fun x=>by kernel_rfl)
abbrev Z6j:Shape:={ sl:=[(0,(.hole y11)),(1,(.hole (.int .i64))),(5,(.hole (.int .i64))),(10,(.hole (.int .i64))),(11,(.hole (.int .i64)))],bl:=[],ts:=[y11,(.int .i64),(.int .i64),(.int .i64),(.int .i64)],pin:=0 }
abbrev Z64:List (ETag × Shape):=[(.exit 0,{ sl:=[(5,(.hole (.int .i64)))],bl:=[],ts:=ts_0,pin:=0 })]
def Z3i (x:(List (T5) × Int × Int × Int × Int)):Option ((List (T5) × Int × Int × Int × Int) ⊕ (Int)) :=
 bif (decide (x.2.2.2.2 < x.2.2.2.1)) then
 bif (inb x.2.2.2.2 (List.length x.1)) then
 bif (inb x.2.1 (List.length x.1)) then
 bif ((getAt ((0:Int),(0:Int),(0:Int),(0:Int),(0:Int)) x.1 (toN x.2.2.2.2)).1 == (getAt ((0:Int),(0:Int),(0:Int),(0:Int),(0:Int)) x.1 (toN x.2.1)).1) then
 some (.inl (x.1,x.2.1,x.2.2.2.2,x.2.2.2.1,(IntKind.wrap .i64 (x.2.2.2.2+(1:Int)))))
 else
 some (.inl (x.1,x.2.1,x.2.2.1,x.2.2.2.1,(IntKind.wrap .i64 (x.2.2.2.2+(1:Int)))))
 else
 none
 else
 none
 else
 some (.inr x.2.2.1)
def Z4k:Ctx:={ tb:=mkTb T2.tbl,fx:=[],sum:=[],nt:=28,pin:=0,nr:=true,ys:=[] }
theorem Z3j:CSound Try.prog ⟨28,0,true⟩ (.loop (loopOf 4 Try.f43)) (Yb1 Z6j Z64 (loop Z3i)) :=
 Y8e (C:=Z4k) (ctxOK mixed tbl_ok rfl trivial trivial) (SumOK.of trivial) Z6j Z64 rfl rfl Z3i (fun x=>by kernel_rfl)
abbrev Z74:Shape:={ sl:=sl_7,bl:=[],ts:=[y11,(.int .i64)],pin:=0 }
abbrev Z8n:Shape:={ sl:=sl_1,bl:=[],ts:=ts_0,pin:=0 }
def Zq (x:T9):Option (Int) :=
 bif (sub3 (0:Int) x.2 (List.length x.1)) then
 (loop Z3i (x.1,x.2,(Int.negSucc 0),(((List.length (cut x.1 (toN (0:Int)) ((toN x.2) - (toN (0:Int))))):Nat):Int),(0:Int))).bind fun r12 =>
 some r12
 else
 none
abbrev Za5:=Spec.shp Z74 Z8n Zq
def Z4j:Ctx:={ tb:=mkTb T2.tbl,fx:=[],sum:=[(0,4,Yb1 Z6j Z64 (loop Z3i))],nt:=28,pin:=0,nr:=true,ys:=[] }
theorem Zr:Sound Try.prog 43 (Za5) :=
 Sound.shp (C:=Z4j) (fn:=Try.f43) (by kernel_rfl) (c:=bodyOf Try.f43) (by kernel_rfl) (by decide) (ctxOK mixed tbl_ok rfl trivial trivial) (SumOK.of ⟨(Yb2 (d:=.loop (loopOf 4 Try.f43)) (by kernel_rfl) Z3j),trivial⟩) (by kernel_rfl) Z74 Z8n rfl (by decide) (by decide) rfl (by decide) rfl Zq (fun x=>by kernel_rfl)
abbrev Z79:Shape:={ sl:=sl_7,bl:=[],ts:=[y11,(.int .i64)],pin:=0 }
abbrev Z8s:Shape:={ sl:=sl_0,bl:=[],ts:=[.bool],pin:=0 }
def Z10 (x:T9):Option (Bool) :=
 bif (inb x.2 (List.length x.1)) then
 bif ((getAt ((0:Int),(0:Int),(0:Int),(0:Int),(0:Int)) x.1 (toN x.2)).2.1 != (0:Int)) then
 (Zq (x.1,x.2)).bind fun r11 =>
 some (decide (r11 < (0:Int)))
 else
 (Zq (x.1,x.2)).bind fun r11 =>
 bif (decide (r11 ≥ (0:Int))) then
 some true
 else
 bif ((getAt ((0:Int),(0:Int),(0:Int),(0:Int),(0:Int)) x.1 (toN x.2)).2.2.1 != (0:Int)) then
 some true
 else
 bif ((getAt ((0:Int),(0:Int),(0:Int),(0:Int),(0:Int)) x.1 (toN x.2)).2.2.2.1 != (0:Int)) then
 some true
 else
 bif ((getAt ((0:Int),(0:Int),(0:Int),(0:Int),(0:Int)) x.1 (toN x.2)).1 == (0:Int)) then
 bif ((getAt ((0:Int),(0:Int),(0:Int),(0:Int),(0:Int)) x.1 (toN x.2)).2.2.2.2 != (Int.negSucc 0)) then
 some true
 else
 bif (decide ((getAt ((0:Int),(0:Int),(0:Int),(0:Int),(0:Int)) x.1 (toN x.2)).1 > (0:Int))) then
 bif (decide ((getAt ((0:Int),(0:Int),(0:Int),(0:Int),(0:Int)) x.1 (toN x.2)).2.2.2.2 < (0:Int))) then
 some true
 else
 bif (inb (getAt ((0:Int),(0:Int),(0:Int),(0:Int),(0:Int)) x.1 (toN x.2)).2.2.2.2 (List.length x.1)) then
 bif ((getAt ((0:Int),(0:Int),(0:Int),(0:Int),(0:Int)) x.1 (toN (getAt ((0:Int),(0:Int),(0:Int),(0:Int),(0:Int)) x.1 (toN x.2)).2.2.2.2)).2.1 != (1:Int)) then
 some true
 else
 bif (inb (getAt ((0:Int),(0:Int),(0:Int),(0:Int),(0:Int)) x.1 (toN x.2)).2.2.2.2 (List.length x.1)) then
 some ((getAt ((0:Int),(0:Int),(0:Int),(0:Int),(0:Int)) x.1 (toN (getAt ((0:Int),(0:Int),(0:Int),(0:Int),(0:Int)) x.1 (toN x.2)).2.2.2.2)).2.2.1 != (getAt ((0:Int),(0:Int),(0:Int),(0:Int),(0:Int)) x.1 (toN x.2)).1)
 else
 none
 else
 none
 else
 some false
 else
 bif (decide ((getAt ((0:Int),(0:Int),(0:Int),(0:Int),(0:Int)) x.1 (toN x.2)).1 > (0:Int))) then
 bif (decide ((getAt ((0:Int),(0:Int),(0:Int),(0:Int),(0:Int)) x.1 (toN x.2)).2.2.2.2 < (0:Int))) then
 some true
 else
 bif (inb (getAt ((0:Int),(0:Int),(0:Int),(0:Int),(0:Int)) x.1 (toN x.2)).2.2.2.2 (List.length x.1)) then
 bif ((getAt ((0:Int),(0:Int),(0:Int),(0:Int),(0:Int)) x.1 (toN (getAt ((0:Int),(0:Int),(0:Int),(0:Int),(0:Int)) x.1 (toN x.2)).2.2.2.2)).2.1 != (1:Int)) then
 some true
 else
 bif (inb (getAt ((0:Int),(0:Int),(0:Int),(0:Int),(0:Int)) x.1 (toN x.2)).2.2.2.2 (List.length x.1)) then
 some ((getAt ((0:Int),(0:Int),(0:Int),(0:Int),(0:Int)) x.1 (toN (getAt ((0:Int),(0:Int),(0:Int),(0:Int),(0:Int)) x.1 (toN x.2)).2.2.2.2)).2.2.1 != (getAt ((0:Int),(0:Int),(0:Int),(0:Int),(0:Int)) x.1 (toN x.2)).1)
 else
 none
 else
 none
 else
 some false
 else
 none
abbrev Zaa:=Spec.shp Z79 Z8s Z10
def Z4q:Ctx:={ tb:=mkTb T2.tbl,fx:=[(43,[],Za5)],sum:=[],nt:=69,pin:=0,nr:=true,ys:=[] }
theorem Z11:Sound Try.prog 78 (Zaa) :=
 Sound.shp (C:=Z4q) (fn:=Try.f78) (by kernel_rfl) (c:=bodyOf Try.f78) (by kernel_rfl) (by decide) (ctxOK mixed tbl_ok rfl ⟨Zr,trivial⟩ trivial) (SumOK.of trivial) (by kernel_rfl) Z79 Z8s rfl (by decide) (by decide) rfl (by decide) rfl Z10 (fun x=>by kernel_rfl)
abbrev Z7e:Shape:={ sl:=sl_1,bl:=[],ts:=ts_0,pin:=0 }
abbrev Z8x:Shape:={ sl:=sl_0,bl:=[],ts:=[.bool],pin:=0 }
def Z1a (x:(Int)):Option (Bool) :=
 bif (x == (3:Int)) then
 some true
 else
 some (x == (5:Int))
abbrev Zaf:=Spec.shp Z7e Z8x Z1a
def Z4x:Ctx:={ tb:=mkTb T2.tbl,fx:=[],sum:=[],nt:=9,pin:=0,nr:=true,ys:=[] }
theorem Z1b:Sound Try.prog 95 (Zaf) :=
 Sound.shp (C:=Z4x) (fn:=Try.f95) (by kernel_rfl) (c:=bodyOf Try.f95) (by kernel_rfl) (by decide) (ctxOK mixed tbl_ok rfl trivial trivial) (SumOK.of trivial) (by kernel_rfl) Z7e Z8x rfl (by decide) (by decide) rfl (by decide) rfl Z1a (fun x=>by kernel_rfl)
abbrev Z78:Shape:={ sl:=sl_1,bl:=[],ts:=ts_0,pin:=0 }
abbrev Z8r:Shape:={ sl:=sl_0,bl:=[],ts:=[.bool],pin:=0 }
def Zy (x:(Int)):Option (Bool) :=
 bif (x == (0:Int)) then
 some true
 else
 bif (x == (3:Int)) then
 some true
 else
 bif (x == (5:Int)) then
 some true
 else
 bif (x == (6:Int)) then
 some true
 else
 bif (x == (9:Int)) then
 some true
 else
 bif (x == (11:Int)) then
 some true
 else
 some (x == (15:Int))
abbrev Za9:=Spec.shp Z78 Z8r Zy
def Z4p:Ctx:={ tb:=mkTb T2.tbl,fx:=[],sum:=[],nt:=29,pin:=0,nr:=true,ys:=[] }
theorem Zz:Sound Try.prog 96 (Za9) :=
 Sound.shp (C:=Z4p) (fn:=Try.f96) (by kernel_rfl) (c:=bodyOf Try.f96) (by kernel_rfl) (by decide) (ctxOK mixed tbl_ok rfl trivial trivial) (SumOK.of trivial) (by kernel_rfl) Z78 Z8r rfl (by decide) (by decide) rfl (by decide) rfl Zy (fun x=>by kernel_rfl)
abbrev Z6m:Shape:={ sl:=[(7,(.ptr 0 [])),(8,(.hole (.int .i64))),(40,(.hole y11)),(41,(.hole (.int .i64))),(42,(.hole (.int .i64)))],bl:=[.var (.hole y10)],ts:=[(.int .i64),y11,(.int .i64),(.int .i64),y10],pin:=0 }
abbrev Z67:List (ETag × Shape):=[(.exit 0,{ sl:=[(7,(.ptr 0 [])),(8,(.hole (.int .i64)))],bl:=[.var (.hole y10)],ts:=[(.int .i64),y10],pin:=0 })]
def Z3o (x:(Int × List (T5) × Int × Int × T5)):Option ((Int × List (T5) × Int × Int × T5) ⊕ (Int × T5)) :=
 bif (decide (x.2.2.2.1 < x.2.2.1)) then
 bif (inb x.2.2.2.1 (List.length x.2.1)) then
 bif ((getAt ((0:Int),(0:Int),(0:Int),(0:Int),(0:Int)) x.2.1 (toN x.2.2.2.1)).2.1 == (0:Int)) then
 some (.inl ((IntKind.wrap .i64 (x.1+(1:Int))),x.2.1,x.2.2.1,(IntKind.wrap .i64 (x.2.2.2.1+(1:Int))),x.2.2.2.2))
 else
 some (.inl (x.1,x.2.1,x.2.2.1,(IntKind.wrap .i64 (x.2.2.2.1+(1:Int))),x.2.2.2.2))
 else
 none
 else
 some (.inr (x.1,x.2.2.2.2))
def Z4v:Ctx:={ tb:=mkTb T2.tbl,fx:=[(95,[],Zaf),(96,[],Za9)],sum:=[],nt:=73,pin:=0,nr:=true,ys:=[] }
theorem Z3p:CSound Try.prog ⟨73,0,true⟩ (.loop (loopOf 8 Try.f79)) (Yb1 Z6m Z67 (loop Z3o)) :=
 Y8e (C:=Z4v) (ctxOK mixed tbl_ok rfl ⟨Z1b,Zz,trivial⟩ trivial) (SumOK.of trivial) Z6m Z67 rfl rfl Z3o (fun x=>by kernel_rfl)
abbrev Z7d:Shape:={ sl:=[(0,(.hole y0)),(1,(.hole (.int .i64)))],bl:=[],ts:=[y0,(.int .i64)],pin:=0 }
abbrev Z8w:Shape:={ sl:=sl_1,bl:=[],ts:=ts_0,pin:=0 }
def Z18 (x:(List Int × Int)):Option (Int) :=
 bif (decide (x.2 ≥ (2:Int))) then
 bif (decide (x.2 ≤ (7:Int))) then
 some (((List.length x.1):Nat):Int)
 else
 bif (x.2 == (8:Int)) then
 some (4:Int)
 else
 bif (x.2 == (9:Int)) then
 some (4:Int)
 else
 bif (decide (x.2 ≥ (16:Int))) then
 some (4:Int)
 else
 bif (decide (x.2 ≥ (10:Int))) then
 bif (decide (x.2 ≤ (15:Int))) then
 some (2:Int)
 else
 some (1:Int)
 else
 some (1:Int)
 else
 bif (x.2 == (8:Int)) then
 some (4:Int)
 else
 bif (x.2 == (9:Int)) then
 some (4:Int)
 else
 bif (decide (x.2 ≥ (16:Int))) then
 some (4:Int)
 else
 bif (decide (x.2 ≥ (10:Int))) then
 bif (decide (x.2 ≤ (15:Int))) then
 some (2:Int)
 else
 some (1:Int)
 else
 some (1:Int)
abbrev Zae:=Spec.shp Z7d Z8w Z18
def Z4w:Ctx:={ tb:=mkTb T2.tbl,fx:=[],sum:=[],nt:=29,pin:=0,nr:=true,ys:=[] }
theorem Z19:Sound Try.prog 97 (Zae) :=
 Sound.shp (C:=Z4w) (fn:=Try.f97) (by kernel_rfl) (c:=bodyOf Try.f97) (by kernel_rfl) (by decide) (ctxOK mixed tbl_ok rfl trivial trivial) (SumOK.of trivial) (by kernel_rfl) Z7d Z8w rfl (by decide) (by decide) rfl (by decide) rfl Z18 (fun x=>by kernel_rfl)
abbrev Z7c:Shape:={ sl:=sl_6,bl:=[],ts:=ts_9,pin:=0 }
abbrev Z8v:Shape:={ sl:=sl_0,bl:=[],ts:=[.bool],pin:=0 }
def Z16 (x:T11):Option (Bool) :=
 bif (inb x.2.2 (List.length x.2.1)) then
 (Z1a (getAt ((0:Int),(0:Int),(0:Int),(0:Int),(0:Int)) x.2.1 (toN x.2.2)).2.1).bind fun r12 =>
 bif (Bool.not r12) then
 bif ((getAt ((0:Int),(0:Int),(0:Int),(0:Int),(0:Int)) x.2.1 (toN x.2.2)).2.2.2.1 != (0:Int)) then
 some true
 else
 (Zy (getAt ((0:Int),(0:Int),(0:Int),(0:Int),(0:Int)) x.2.1 (toN x.2.2)).2.1).bind fun r13 =>
 bif (Bool.not r13) then
 bif ((getAt ((0:Int),(0:Int),(0:Int),(0:Int),(0:Int)) x.2.1 (toN x.2.2)).2.2.2.2 != (Int.negSucc 0)) then
 some true
 else
 bif ((getAt ((0:Int),(0:Int),(0:Int),(0:Int),(0:Int)) x.2.1 (toN x.2.2)).2.1 == (1:Int)) then
 bif (sub3 (0:Int) x.2.2 (List.length x.2.1)) then
 (loop Z3o ((0:Int),(cut x.2.1 (toN (0:Int)) ((toN x.2.2) - (toN (0:Int)))),(((List.length (cut x.2.1 (toN (0:Int)) ((toN x.2.2) - (toN (0:Int))))):Nat):Int),(0:Int),(getAt ((0:Int),(0:Int),(0:Int),(0:Int),(0:Int)) x.2.1 (toN x.2.2)))).bind fun r14 =>
 some (r14.2.2.2.1 != r14.1)
 else
 none
 else
 bif ((getAt ((0:Int),(0:Int),(0:Int),(0:Int),(0:Int)) x.2.1 (toN x.2.2)).2.1 != (0:Int)) then
 bif (decide ((getAt ((0:Int),(0:Int),(0:Int),(0:Int),(0:Int)) x.2.1 (toN x.2.2)).2.2.1 < (0:Int))) then
 some true
 else
 (Z18 (x.1,(getAt ((0:Int),(0:Int),(0:Int),(0:Int),(0:Int)) x.2.1 (toN x.2.2)).2.1)).bind fun r14 =>
 some (decide ((getAt ((0:Int),(0:Int),(0:Int),(0:Int),(0:Int)) x.2.1 (toN x.2.2)).2.2.1 ≥ r14))
 else
 some false
 else
 bif ((getAt ((0:Int),(0:Int),(0:Int),(0:Int),(0:Int)) x.2.1 (toN x.2.2)).2.1 == (1:Int)) then
 bif (sub3 (0:Int) x.2.2 (List.length x.2.1)) then
 (loop Z3o ((0:Int),(cut x.2.1 (toN (0:Int)) ((toN x.2.2) - (toN (0:Int)))),(((List.length (cut x.2.1 (toN (0:Int)) ((toN x.2.2) - (toN (0:Int))))):Nat):Int),(0:Int),(getAt ((0:Int),(0:Int),(0:Int),(0:Int),(0:Int)) x.2.1 (toN x.2.2)))).bind fun r14 =>
 some (r14.2.2.2.1 != r14.1)
 else
 none
 else
 bif ((getAt ((0:Int),(0:Int),(0:Int),(0:Int),(0:Int)) x.2.1 (toN x.2.2)).2.1 != (0:Int)) then
 bif (decide ((getAt ((0:Int),(0:Int),(0:Int),(0:Int),(0:Int)) x.2.1 (toN x.2.2)).2.2.1 < (0:Int))) then
 some true
 else
 (Z18 (x.1,(getAt ((0:Int),(0:Int),(0:Int),(0:Int),(0:Int)) x.2.1 (toN x.2.2)).2.1)).bind fun r14 =>
 some (decide ((getAt ((0:Int),(0:Int),(0:Int),(0:Int),(0:Int)) x.2.1 (toN x.2.2)).2.2.1 ≥ r14))
 else
 some false
 else
 (Zy (getAt ((0:Int),(0:Int),(0:Int),(0:Int),(0:Int)) x.2.1 (toN x.2.2)).2.1).bind fun r13 =>
 bif (Bool.not r13) then
 bif ((getAt ((0:Int),(0:Int),(0:Int),(0:Int),(0:Int)) x.2.1 (toN x.2.2)).2.2.2.2 != (Int.negSucc 0)) then
 some true
 else
 bif ((getAt ((0:Int),(0:Int),(0:Int),(0:Int),(0:Int)) x.2.1 (toN x.2.2)).2.1 == (1:Int)) then
 bif (sub3 (0:Int) x.2.2 (List.length x.2.1)) then
 (loop Z3o ((0:Int),(cut x.2.1 (toN (0:Int)) ((toN x.2.2) - (toN (0:Int)))),(((List.length (cut x.2.1 (toN (0:Int)) ((toN x.2.2) - (toN (0:Int))))):Nat):Int),(0:Int),(getAt ((0:Int),(0:Int),(0:Int),(0:Int),(0:Int)) x.2.1 (toN x.2.2)))).bind fun r14 =>
 some (r14.2.2.2.1 != r14.1)
 else
 none
 else
 bif ((getAt ((0:Int),(0:Int),(0:Int),(0:Int),(0:Int)) x.2.1 (toN x.2.2)).2.1 != (0:Int)) then
 bif (decide ((getAt ((0:Int),(0:Int),(0:Int),(0:Int),(0:Int)) x.2.1 (toN x.2.2)).2.2.1 < (0:Int))) then
 some true
 else
 (Z18 (x.1,(getAt ((0:Int),(0:Int),(0:Int),(0:Int),(0:Int)) x.2.1 (toN x.2.2)).2.1)).bind fun r14 =>
 some (decide ((getAt ((0:Int),(0:Int),(0:Int),(0:Int),(0:Int)) x.2.1 (toN x.2.2)).2.2.1 ≥ r14))
 else
 some false
 else
 bif ((getAt ((0:Int),(0:Int),(0:Int),(0:Int),(0:Int)) x.2.1 (toN x.2.2)).2.1 == (1:Int)) then
 bif (sub3 (0:Int) x.2.2 (List.length x.2.1)) then
 (loop Z3o ((0:Int),(cut x.2.1 (toN (0:Int)) ((toN x.2.2) - (toN (0:Int)))),(((List.length (cut x.2.1 (toN (0:Int)) ((toN x.2.2) - (toN (0:Int))))):Nat):Int),(0:Int),(getAt ((0:Int),(0:Int),(0:Int),(0:Int),(0:Int)) x.2.1 (toN x.2.2)))).bind fun r14 =>
 some (r14.2.2.2.1 != r14.1)
 else
 none
 else
 bif ((getAt ((0:Int),(0:Int),(0:Int),(0:Int),(0:Int)) x.2.1 (toN x.2.2)).2.1 != (0:Int)) then
 bif (decide ((getAt ((0:Int),(0:Int),(0:Int),(0:Int),(0:Int)) x.2.1 (toN x.2.2)).2.2.1 < (0:Int))) then
 some true
 else
 (Z18 (x.1,(getAt ((0:Int),(0:Int),(0:Int),(0:Int),(0:Int)) x.2.1 (toN x.2.2)).2.1)).bind fun r14 =>
 some (decide ((getAt ((0:Int),(0:Int),(0:Int),(0:Int),(0:Int)) x.2.1 (toN x.2.2)).2.2.1 ≥ r14))
 else
 some false
 else
 none
abbrev Zad:=Spec.shp Z7c Z8v Z16
def Z4u:Ctx:={ tb:=mkTb T2.tbl,fx:=[(95,[],Zaf),(96,[],Za9),(97,[],Zae)],sum:=[(0,8,Yb1 Z6m Z67 (loop Z3o))],nt:=73,pin:=0,nr:=true,ys:=[] }
theorem Z17:Sound Try.prog 79 (Zad) :=
 Sound.shp (C:=Z4u) (fn:=Try.f79) (by kernel_rfl) (c:=bodyOf Try.f79) (by kernel_rfl) (by decide) (ctxOK mixed tbl_ok rfl ⟨Z1b,Zz,Z19,trivial⟩ trivial) (SumOK.of ⟨(Yb2 (d:=.loop (loopOf 8 Try.f79)) (by kernel_rfl) Z3p),trivial⟩) (by kernel_rfl) Z7c Z8v rfl (by decide) (by decide) rfl (by decide) rfl Z16 (fun x=>by kernel_rfl)
abbrev Z7f:Shape:={ sl:=sl_1,bl:=[],ts:=ts_0,pin:=0 }
abbrev Z8y:Shape:={ sl:=sl_1,bl:=[],ts:=ts_0,pin:=0 }
def Z1c (x:(Int)):Option (Int) :=
 bif (x == (3:Int)) then
 some (2:Int)
 else
 bif (x == (5:Int)) then
 some (4:Int)
 else
 bif (x == (6:Int)) then
 some (4:Int)
 else
 bif (x == (9:Int)) then
 some (8:Int)
 else
 bif (x == (11:Int)) then
 some (10:Int)
 else
 some (13:Int)
abbrev Zag:=Spec.shp Z7f Z8y Z1c
def Z4y:Ctx:={ tb:=mkTb T2.tbl,fx:=[],sum:=[],nt:=15,pin:=0,nr:=true,ys:=[] }
theorem Z1d:Sound Try.prog 98 (Zag) :=
 Sound.shp (C:=Z4y) (fn:=Try.f98) (by kernel_rfl) (c:=bodyOf Try.f98) (by kernel_rfl) (by decide) (ctxOK mixed tbl_ok rfl trivial trivial) (SumOK.of trivial) (by kernel_rfl) Z7f Z8y rfl (by decide) (by decide) rfl (by decide) rfl Z1c (fun x=>by kernel_rfl)
abbrev Z77:Shape:={ sl:=sl_7,bl:=[],ts:=[y11,(.int .i64)],pin:=0 }
abbrev Z8q:Shape:={ sl:=sl_0,bl:=[],ts:=[.bool],pin:=0 }
def Zw (x:T9):Option (Bool) :=
 bif (inb x.2 (List.length x.1)) then
 bif ((getAt ((0:Int),(0:Int),(0:Int),(0:Int),(0:Int)) x.1 (toN x.2)).2.1 == (0:Int)) then
 some false
 else
 (Zy (getAt ((0:Int),(0:Int),(0:Int),(0:Int),(0:Int)) x.1 (toN x.2)).2.1).bind fun r13 =>
 bif (Bool.not r13) then
 some false
 else
 bif (decide ((getAt ((0:Int),(0:Int),(0:Int),(0:Int),(0:Int)) x.1 (toN x.2)).2.2.2.2 < (0:Int))) then
 some true
 else
 (Zq (x.1,x.2)).bind fun r14 =>
 bif ((getAt ((0:Int),(0:Int),(0:Int),(0:Int),(0:Int)) x.1 (toN x.2)).2.2.2.2 != r14) then
 some true
 else
 bif (inb (getAt ((0:Int),(0:Int),(0:Int),(0:Int),(0:Int)) x.1 (toN x.2)).2.2.2.2 (List.length x.1)) then
 bif (decide ((getAt ((0:Int),(0:Int),(0:Int),(0:Int),(0:Int)) x.1 (toN x.2)).2.1 ≤ (6:Int))) then
 bif ((getAt ((0:Int),(0:Int),(0:Int),(0:Int),(0:Int)) x.1 (toN (getAt ((0:Int),(0:Int),(0:Int),(0:Int),(0:Int)) x.1 (toN x.2)).2.2.2.2)).2.1 == (8:Int)) then
 some false
 else
 (Z1c (getAt ((0:Int),(0:Int),(0:Int),(0:Int),(0:Int)) x.1 (toN x.2)).2.1).bind fun r15 =>
 bif ((getAt ((0:Int),(0:Int),(0:Int),(0:Int),(0:Int)) x.1 (toN (getAt ((0:Int),(0:Int),(0:Int),(0:Int),(0:Int)) x.1 (toN x.2)).2.2.2.2)).2.1 != r15) then
 some true
 else
 some ((getAt ((0:Int),(0:Int),(0:Int),(0:Int),(0:Int)) x.1 (toN (getAt ((0:Int),(0:Int),(0:Int),(0:Int),(0:Int)) x.1 (toN x.2)).2.2.2.2)).2.2.1 != (getAt ((0:Int),(0:Int),(0:Int),(0:Int),(0:Int)) x.1 (toN x.2)).2.2.1)
 else
 (Z1c (getAt ((0:Int),(0:Int),(0:Int),(0:Int),(0:Int)) x.1 (toN x.2)).2.1).bind fun r15 =>
 bif ((getAt ((0:Int),(0:Int),(0:Int),(0:Int),(0:Int)) x.1 (toN (getAt ((0:Int),(0:Int),(0:Int),(0:Int),(0:Int)) x.1 (toN x.2)).2.2.2.2)).2.1 != r15) then
 some true
 else
 some ((getAt ((0:Int),(0:Int),(0:Int),(0:Int),(0:Int)) x.1 (toN (getAt ((0:Int),(0:Int),(0:Int),(0:Int),(0:Int)) x.1 (toN x.2)).2.2.2.2)).2.2.1 != (getAt ((0:Int),(0:Int),(0:Int),(0:Int),(0:Int)) x.1 (toN x.2)).2.2.1)
 else
 none
 else
 none
abbrev Za8:=Spec.shp Z77 Z8q Zw
def Z4o:Ctx:={ tb:=mkTb T2.tbl,fx:=[(96,[],Za9),(43,[],Za5),(98,[],Zag)],sum:=[],nt:=57,pin:=0,nr:=true,ys:=[] }
theorem Zx:Sound Try.prog 80 (Za8) :=
 Sound.shp (C:=Z4o) (fn:=Try.f80) (by kernel_rfl) (c:=bodyOf Try.f80) (by kernel_rfl) (by decide) (ctxOK mixed tbl_ok rfl ⟨Zz,Zr,Z1d,trivial⟩ trivial) (SumOK.of trivial) (by kernel_rfl) Z77 Z8q rfl (by decide) (by decide) rfl (by decide) rfl Zw (fun x=>by kernel_rfl)
abbrev Z6i:Shape:={ sl:=[(2,(.hole (.int .i64))),(3,(.hole (.int .i64))),(9,(.hole (.int .i64))),(14,(.hole y11)),(15,(.hole (.int .i64))),(16,(.hole (.int .i64)))],bl:=[],ts:=ts_10,pin:=0 }
abbrev Z63:List (ETag × Shape):=[(.exit 0,{ sl:=[(9,(.hole (.int .i64)))],bl:=[],ts:=ts_0,pin:=0 })]
def Z3g (x:T12):Option (T12 ⊕ (Int)) :=
 bif (decide (x.2.2.2.2.2 < x.2.2.2.2.1)) then
 bif (inb x.2.2.2.2.2 (List.length x.2.2.2.1)) then
 bif ((getAt ((0:Int),(0:Int),(0:Int),(0:Int),(0:Int)) x.2.2.2.1 (toN x.2.2.2.2.2)).2.1 == x.1) then
 bif ((getAt ((0:Int),(0:Int),(0:Int),(0:Int),(0:Int)) x.2.2.2.1 (toN x.2.2.2.2.2)).2.2.1 == x.2.1) then
 some (.inl (x.1,x.2.1,(IntKind.wrap .i64 (x.2.2.1+(1:Int))),x.2.2.2.1,x.2.2.2.2.1,(IntKind.wrap .i64 (x.2.2.2.2.2+(1:Int)))))
 else
 some (.inl (x.1,x.2.1,x.2.2.1,x.2.2.2.1,x.2.2.2.2.1,(IntKind.wrap .i64 (x.2.2.2.2.2+(1:Int)))))
 else
 some (.inl (x.1,x.2.1,x.2.2.1,x.2.2.2.1,x.2.2.2.2.1,(IntKind.wrap .i64 (x.2.2.2.2.2+(1:Int)))))
 else
 none
 else
 some (.inr x.2.2.1)
def Z4i:Ctx:={ tb:=mkTb T2.tbl,fx:=[],sum:=[],nt:=34,pin:=0,nr:=true,ys:=[] }
theorem Z3h:CSound Try.prog ⟨34,0,true⟩ (.loop (loopOf 4 Try.f99)) (Yb1 Z6i Z63 (loop Z3g)) :=
 Y8e (C:=Z4i) (ctxOK mixed tbl_ok rfl trivial trivial) (SumOK.of trivial) Z6i Z63 rfl rfl Z3g (fun x=>by kernel_rfl)
abbrev Z73:Shape:={ sl:=sl_8,bl:=[],ts:=[y11,(.int .i64),(.int .i64),(.int .i64)],pin:=0 }
abbrev Z8m:Shape:={ sl:=sl_1,bl:=[],ts:=ts_0,pin:=0 }
def Zo (x:(List (T5) × Int × Int × Int)):Option (Int) :=
 bif (sub3 (0:Int) x.2.1 (List.length x.1)) then
 (loop Z3g (x.2.2.1,x.2.2.2,(0:Int),(cut x.1 (toN (0:Int)) ((toN x.2.1) - (toN (0:Int)))),(((List.length (cut x.1 (toN (0:Int)) ((toN x.2.1) - (toN (0:Int))))):Nat):Int),(0:Int))).bind fun r15 =>
 some r15
 else
 none
abbrev Za4:=Spec.shp Z73 Z8m Zo
def Z4h:Ctx:={ tb:=mkTb T2.tbl,fx:=[],sum:=[(0,4,Yb1 Z6i Z63 (loop Z3g))],nt:=34,pin:=0,nr:=true,ys:=[] }
theorem Zp:Sound Try.prog 99 (Za4) :=
 Sound.shp (C:=Z4h) (fn:=Try.f99) (by kernel_rfl) (c:=bodyOf Try.f99) (by kernel_rfl) (by decide) (ctxOK mixed tbl_ok rfl trivial trivial) (SumOK.of ⟨(Yb2 (d:=.loop (loopOf 4 Try.f99)) (by kernel_rfl) Z3h),trivial⟩) (by kernel_rfl) Z73 Z8m rfl (by decide) (by decide) rfl (by decide) rfl Zo (fun x=>by kernel_rfl)
abbrev Z7a:Shape:={ sl:=sl_6,bl:=[],ts:=ts_9,pin:=0 }
abbrev Z8t:Shape:={ sl:=sl_0,bl:=[],ts:=[.bool],pin:=0 }
def Z12 (x:T11):Option (Bool) :=
 bif (inb x.2.2 (List.length x.2.1)) then
 bif ((getAt ((0:Int),(0:Int),(0:Int),(0:Int),(0:Int)) x.2.1 (toN x.2.2)).2.1 != (3:Int)) then
 bif (decide ((getAt ((0:Int),(0:Int),(0:Int),(0:Int),(0:Int)) x.2.1 (toN x.2.2)).2.1 < (5:Int))) then
 some false
 else
 bif (decide ((getAt ((0:Int),(0:Int),(0:Int),(0:Int),(0:Int)) x.2.1 (toN x.2.2)).2.1 > (7:Int))) then
 some false
 else
 (Zo (x.2.1,x.2.2,(3:Int),(getAt ((0:Int),(0:Int),(0:Int),(0:Int),(0:Int)) x.2.1 (toN x.2.2)).2.2.1)).bind fun r14 =>
 (Zo (x.2.1,x.2.2,(5:Int),(getAt ((0:Int),(0:Int),(0:Int),(0:Int),(0:Int)) x.2.1 (toN x.2.2)).2.2.1)).bind fun r15 =>
 (Zo (x.2.1,x.2.2,(7:Int),(getAt ((0:Int),(0:Int),(0:Int),(0:Int),(0:Int)) x.2.1 (toN x.2.2)).2.2.1)).bind fun r16 =>
 bif (inb (getAt ((0:Int),(0:Int),(0:Int),(0:Int),(0:Int)) x.2.1 (toN x.2.2)).2.2.1 (List.length x.1)) then
 bif (decide ((getAt (0:Int) x.1 (toN (getAt ((0:Int),(0:Int),(0:Int),(0:Int),(0:Int)) x.2.1 (toN x.2.2)).2.2.1)) < (0:Int))) then
 some true
 else
 bif ((getAt ((0:Int),(0:Int),(0:Int),(0:Int),(0:Int)) x.2.1 (toN x.2.2)).2.1 == (3:Int)) then
 bif (decide (r16 > (0:Int))) then
 some true
 else
 bif ((getAt ((0:Int),(0:Int),(0:Int),(0:Int),(0:Int)) x.2.1 (toN x.2.2)).2.2.2.1 != r14) then
 some true
 else
 bif (inb (getAt ((0:Int),(0:Int),(0:Int),(0:Int),(0:Int)) x.2.1 (toN x.2.2)).2.2.1 (List.length x.1)) then
 some (decide ((getAt ((0:Int),(0:Int),(0:Int),(0:Int),(0:Int)) x.2.1 (toN x.2.2)).2.2.2.1 > (IntKind.wrap .i64 (r15+(getAt (0:Int) x.1 (toN (getAt ((0:Int),(0:Int),(0:Int),(0:Int),(0:Int)) x.2.1 (toN x.2.2)).2.2.1))))))
 else
 none
 else
 bif ((getAt ((0:Int),(0:Int),(0:Int),(0:Int),(0:Int)) x.2.1 (toN x.2.2)).2.1 == (5:Int)) then
 bif ((getAt ((0:Int),(0:Int),(0:Int),(0:Int),(0:Int)) x.2.1 (toN x.2.2)).2.2.2.1 != r15) then
 some true
 else
 some (decide ((getAt ((0:Int),(0:Int),(0:Int),(0:Int),(0:Int)) x.2.1 (toN x.2.2)).2.2.2.1 > r14))
 else
 bif ((getAt ((0:Int),(0:Int),(0:Int),(0:Int),(0:Int)) x.2.1 (toN x.2.2)).2.1 == (6:Int)) then
 bif (Bool.not (decide (r16 > (0:Int)))) then
 some true
 else
 some (r14 != r15)
 else
 some (decide (r16 > (0:Int)))
 else
 none
 else
 (Zo (x.2.1,x.2.2,(3:Int),(getAt ((0:Int),(0:Int),(0:Int),(0:Int),(0:Int)) x.2.1 (toN x.2.2)).2.2.1)).bind fun r14 =>
 (Zo (x.2.1,x.2.2,(5:Int),(getAt ((0:Int),(0:Int),(0:Int),(0:Int),(0:Int)) x.2.1 (toN x.2.2)).2.2.1)).bind fun r15 =>
 (Zo (x.2.1,x.2.2,(7:Int),(getAt ((0:Int),(0:Int),(0:Int),(0:Int),(0:Int)) x.2.1 (toN x.2.2)).2.2.1)).bind fun r16 =>
 bif (inb (getAt ((0:Int),(0:Int),(0:Int),(0:Int),(0:Int)) x.2.1 (toN x.2.2)).2.2.1 (List.length x.1)) then
 bif (decide ((getAt (0:Int) x.1 (toN (getAt ((0:Int),(0:Int),(0:Int),(0:Int),(0:Int)) x.2.1 (toN x.2.2)).2.2.1)) < (0:Int))) then
 some true
 else
 bif ((getAt ((0:Int),(0:Int),(0:Int),(0:Int),(0:Int)) x.2.1 (toN x.2.2)).2.1 == (3:Int)) then
 bif (decide (r16 > (0:Int))) then
 some true
 else
 bif ((getAt ((0:Int),(0:Int),(0:Int),(0:Int),(0:Int)) x.2.1 (toN x.2.2)).2.2.2.1 != r14) then
 some true
 else
 bif (inb (getAt ((0:Int),(0:Int),(0:Int),(0:Int),(0:Int)) x.2.1 (toN x.2.2)).2.2.1 (List.length x.1)) then
 some (decide ((getAt ((0:Int),(0:Int),(0:Int),(0:Int),(0:Int)) x.2.1 (toN x.2.2)).2.2.2.1 > (IntKind.wrap .i64 (r15+(getAt (0:Int) x.1 (toN (getAt ((0:Int),(0:Int),(0:Int),(0:Int),(0:Int)) x.2.1 (toN x.2.2)).2.2.1))))))
 else
 none
 else
 bif ((getAt ((0:Int),(0:Int),(0:Int),(0:Int),(0:Int)) x.2.1 (toN x.2.2)).2.1 == (5:Int)) then
 bif ((getAt ((0:Int),(0:Int),(0:Int),(0:Int),(0:Int)) x.2.1 (toN x.2.2)).2.2.2.1 != r15) then
 some true
 else
 some (decide ((getAt ((0:Int),(0:Int),(0:Int),(0:Int),(0:Int)) x.2.1 (toN x.2.2)).2.2.2.1 > r14))
 else
 bif ((getAt ((0:Int),(0:Int),(0:Int),(0:Int),(0:Int)) x.2.1 (toN x.2.2)).2.1 == (6:Int)) then
 bif (Bool.not (decide (r16 > (0:Int)))) then
 some true
 else
 some (r14 != r15)
 else
 some (decide (r16 > (0:Int)))
 else
 none
 else
 none
abbrev Zab:=Spec.shp Z7a Z8t Z12
def Z4r:Ctx:={ tb:=mkTb T2.tbl,fx:=[(99,[],Za4)],sum:=[],nt:=96,pin:=0,nr:=true,ys:=[] }
theorem Z13:Sound Try.prog 81 (Zab) :=
 Sound.shp (C:=Z4r) (fn:=Try.f81) (by kernel_rfl) (c:=bodyOf Try.f81) (by kernel_rfl) (by decide) (ctxOK mixed tbl_ok rfl ⟨Zp,trivial⟩ trivial) (SumOK.of trivial) (by kernel_rfl) Z7a Z8t rfl (by decide) (by decide) rfl (by decide) rfl Z12 (fun x=>by kernel_rfl)
abbrev Z6l:Shape:={ sl:=[(0,(.hole y11)),(1,(.hole (.int .i64))),(5,(.ptr 0 [])),(23,(.hole y11)),(24,(.hole (.int .i64))),(25,(.hole (.int .i64)))],bl:=[.var (.hole y10)],ts:=[y11,(.int .i64),y11,(.int .i64),(.int .i64),y10],pin:=0 }
abbrev Z66:List (ETag × Shape):=[(.ret,{ sl:=[(4,(.hole .bool))],bl:=[],ts:=[.bool],pin:=0 }),(.exit 0,{ sl:=[],bl:=[],ts:=[],pin:=0 })]
def Z3m (x:(List (T5) × Int × List (T5) × Int × Int × T5)):Option ((List (T5) × Int × List (T5) × Int × Int × T5) ⊕ ((Bool) ⊕ Unit)) :=
 bif (decide (x.2.2.2.2.1 < x.2.2.2.1)) then
 bif (inb x.2.2.2.2.1 (List.length x.2.2.1)) then
 bif ((getAt ((0:Int),(0:Int),(0:Int),(0:Int),(0:Int)) x.2.2.1 (toN x.2.2.2.2.1)).2.1 == (13:Int)) then
 bif ((getAt ((0:Int),(0:Int),(0:Int),(0:Int),(0:Int)) x.2.2.1 (toN x.2.2.2.2.1)).2.2.1 == x.2.2.2.2.2.2.2.1) then
 bif ((getAt ((0:Int),(0:Int),(0:Int),(0:Int),(0:Int)) x.2.2.1 (toN x.2.2.2.2.1)).1 != x.2.2.2.2.2.1) then
 some (.inr (.inl true))
 else
 (Zo (x.1,x.2.1,(14:Int),x.2.2.2.2.2.2.2.1)).bind fun r19 =>
 some (.inr (.inl (decide (r19 > (0:Int)))))
 else
 some (.inl (x.1,x.2.1,x.2.2.1,x.2.2.2.1,(IntKind.wrap .i64 (x.2.2.2.2.1+(1:Int))),x.2.2.2.2.2))
 else
 some (.inl (x.1,x.2.1,x.2.2.1,x.2.2.2.1,(IntKind.wrap .i64 (x.2.2.2.2.1+(1:Int))),x.2.2.2.2.2))
 else
 none
 else
 some (.inr (.inr ()))
def Z4t:Ctx:={ tb:=mkTb T2.tbl,fx:=[(99,[],Za4)],sum:=[],nt:=53,pin:=0,nr:=true,ys:=[] }
theorem Z3n:CSound Try.prog ⟨53,0,true⟩ (.loop (loopOf 6 Try.f100)) (Yb1 Z6l Z66 (loop Z3m)) :=
 Y8e (C:=Z4t) (ctxOK mixed tbl_ok rfl ⟨Zp,trivial⟩ trivial) (SumOK.of trivial) Z6l Z66 rfl rfl Z3m (fun x=>by kernel_rfl)
abbrev Z7b:Shape:={ sl:=sl_7,bl:=[],ts:=[y11,(.int .i64)],pin:=0 }
abbrev Z8u:Shape:={ sl:=sl_0,bl:=[],ts:=[.bool],pin:=0 }
def Z14 (x:T9):Option (Bool) :=
 bif (inb x.2 (List.length x.1)) then
 bif ((getAt ((0:Int),(0:Int),(0:Int),(0:Int),(0:Int)) x.1 (toN x.2)).2.1 == (15:Int)) then
 (Zo (x.1,x.2,(14:Int),(getAt ((0:Int),(0:Int),(0:Int),(0:Int),(0:Int)) x.1 (toN x.2)).2.2.1)).bind fun r18 =>
 some (r18 == (0:Int))
 else
 bif (sub3 (0:Int) x.2 (List.length x.1)) then
 (loop Z3m (x.1,x.2,(cut x.1 (toN (0:Int)) ((toN x.2) - (toN (0:Int)))),(((List.length (cut x.1 (toN (0:Int)) ((toN x.2) - (toN (0:Int))))):Nat):Int),(0:Int),(getAt ((0:Int),(0:Int),(0:Int),(0:Int),(0:Int)) x.1 (toN x.2)))).bind fun r18 =>
 match r18 with
 | .inl y19 =>
 some y19
 | .inr y19 =>
 some true
 else
 none
 else
 none
abbrev Zac:=Spec.shp Z7b Z8u Z14
def Z4s:Ctx:={ tb:=mkTb T2.tbl,fx:=[(99,[],Za4)],sum:=[(0,6,Yb1 Z6l Z66 (loop Z3m))],nt:=53,pin:=0,nr:=true,ys:=[] }
theorem Z15:Sound Try.prog 100 (Zac) :=
 Sound.shp (C:=Z4s) (fn:=Try.f100) (by kernel_rfl) (c:=bodyOf Try.f100) (by kernel_rfl) (by decide) (ctxOK mixed tbl_ok rfl ⟨Zp,trivial⟩ trivial) (SumOK.of ⟨(Yb2 (d:=.loop (loopOf 6 Try.f100)) (by kernel_rfl) Z3n),trivial⟩) (by kernel_rfl) Z7b Z8u rfl (by decide) (by decide) rfl (by decide) rfl Z14 (fun x=>by kernel_rfl)
abbrev Z7h:Shape:={ sl:=sl_7,bl:=[],ts:=[y11,(.int .i64)],pin:=0 }
abbrev Z90:Shape:={ sl:=sl_0,bl:=[],ts:=[.bool],pin:=0 }
def Z1g (x:T9):Option (Bool) :=
 bif (inb x.2 (List.length x.1)) then
 (Zo (x.1,x.2,(11:Int),(getAt ((0:Int),(0:Int),(0:Int),(0:Int),(0:Int)) x.1 (toN x.2)).2.2.1)).bind fun r15 =>
 (Zo (x.1,x.2,(12:Int),(getAt ((0:Int),(0:Int),(0:Int),(0:Int),(0:Int)) x.1 (toN x.2)).2.2.1)).bind fun r16 =>
 bif ((getAt ((0:Int),(0:Int),(0:Int),(0:Int),(0:Int)) x.1 (toN x.2)).2.1 == (11:Int)) then
 some ((IntKind.wrap .i64 (r15 - r16)) != (0:Int))
 else
 bif ((getAt ((0:Int),(0:Int),(0:Int),(0:Int),(0:Int)) x.1 (toN x.2)).2.1 == (12:Int)) then
 some ((IntKind.wrap .i64 (r15 - r16)) != (1:Int))
 else
 bif ((getAt ((0:Int),(0:Int),(0:Int),(0:Int),(0:Int)) x.1 (toN x.2)).2.1 == (14:Int)) then
 (Z14 (x.1,x.2)).bind fun r17 =>
 some r17
 else
 bif ((getAt ((0:Int),(0:Int),(0:Int),(0:Int),(0:Int)) x.1 (toN x.2)).2.1 == (15:Int)) then
 (Z14 (x.1,x.2)).bind fun r17 =>
 some r17
 else
 some false
 else
 none
abbrev Zai:=Spec.shp Z7h Z90 Z1g
def Z50:Ctx:={ tb:=mkTb T2.tbl,fx:=[(99,[],Za4),(100,[],Zac)],sum:=[],nt:=45,pin:=0,nr:=true,ys:=[] }
theorem Z1h:Sound Try.prog 82 (Zai) :=
 Sound.shp (C:=Z50) (fn:=Try.f82) (by kernel_rfl) (c:=bodyOf Try.f82) (by kernel_rfl) (by decide) (ctxOK mixed tbl_ok rfl ⟨Zp,Z15,trivial⟩ trivial) (SumOK.of trivial) (by kernel_rfl) Z7h Z90 rfl (by decide) (by decide) rfl (by decide) rfl Z1g (fun x=>by kernel_rfl)
abbrev Z76:Shape:={ sl:=sl_6,bl:=[],ts:=ts_9,pin:=0 }
abbrev Z8p:Shape:={ sl:=sl_0,bl:=[],ts:=[.bool],pin:=0 }
def Zu (x:T11):Option (Bool) :=
 (Z1e (x.2.1,x.2.2)).bind fun r9 =>
 bif r9 then
 some true
 else
 (Z10 (x.2.1,x.2.2)).bind fun r10 =>
 bif r10 then
 some true
 else
 (Z16 (x.1,x.2.1,x.2.2)).bind fun r11 =>
 bif r11 then
 some true
 else
 (Zw (x.2.1,x.2.2)).bind fun r12 =>
 bif r12 then
 some true
 else
 (Z12 (x.1,x.2.1,x.2.2)).bind fun r13 =>
 bif r13 then
 some true
 else
 (Z1g (x.2.1,x.2.2)).bind fun r14 =>
 some r14
abbrev Za7:=Spec.shp Z76 Z8p Zu
def Z4n:Ctx:={ tb:=mkTb T2.tbl,fx:=[(77,[],Zah),(78,[],Zaa),(79,[],Zad),(80,[],Za8),(81,[],Zab),(82,[],Zai)],sum:=[],nt:=37,pin:=0,nr:=true,ys:=[] }
theorem Zv:Sound Try.prog 42 (Za7) :=
 Sound.shp (C:=Z4n) (fn:=Try.f42) (by kernel_rfl) (c:=bodyOf Try.f42) (by kernel_rfl) (by decide) (ctxOK mixed tbl_ok rfl ⟨Z1f,Z11,Z17,Zx,Z13,Z1h,trivial⟩ trivial) (SumOK.of trivial) (by kernel_rfl) Z76 Z8p rfl (by decide) (by decide) rfl (by decide) rfl Zu (fun x=>by kernel_rfl)
abbrev Z6k:Shape:={ sl:=[(0,(.hole y0)),(1,(.hole y11)),(7,(.hole (.int .i64))),(8,(.hole (.int .i64)))],bl:=[],ts:=[y0,y11,(.int .i64),(.int .i64)],pin:=0 }
abbrev Z65:List (ETag × Shape):=[(.ret,{ sl:=[(4,(.hole (.int .i64)))],bl:=[],ts:=ts_0,pin:=0 }),(.exit 0,{ sl:=[],bl:=[],ts:=[],pin:=0 })]
def Z3k (x:(List Int × List (T5) × Int × Int)):Option ((List Int × List (T5) × Int × Int) ⊕ ((Int) ⊕ Unit)) :=
 bif (decide (x.2.2.2 < x.2.2.1)) then
 (Zu (x.1,x.2.1,x.2.2.2)).bind fun r8 =>
 bif r8 then
 some (.inr (.inl x.2.2.2))
 else
 some (.inl (x.1,x.2.1,x.2.2.1,(IntKind.wrap .i64 (x.2.2.2+(1:Int)))))
 else
 some (.inr (.inr ()))
def Z4m:Ctx:={ tb:=mkTb T2.tbl,fx:=[(42,[],Za7)],sum:=[],nt:=17,pin:=0,nr:=true,ys:=[] }
theorem Z3l:CSound Try.prog ⟨17,0,true⟩ (.loop (loopOf 3 Try.f26)) (Yb1 Z6k Z65 (loop Z3k)) :=
 Y8e (C:=Z4m) (ctxOK mixed tbl_ok rfl ⟨Zv,trivial⟩ trivial) (SumOK.of trivial) Z6k Z65 rfl rfl Z3k (fun x=>by kernel_rfl)
abbrev Z75:Shape:={ sl:=sl_5,bl:=[],ts:=[y0,y11],pin:=0 }
abbrev Z8o:Shape:={ sl:=sl_1,bl:=[],ts:=ts_0,pin:=0 }
def Zs (x:T10):Option (Int) :=
 (loop Z3k (x.1,x.2,(((List.length x.2):Nat):Int),(0:Int))).bind fun r7 =>
 match r7 with
 | .inl y8 =>
 some y8
 | .inr y8 =>
 some (Int.negSucc 0)
abbrev Za6:=Spec.shp Z75 Z8o Zs
def Z4l:Ctx:={ tb:=mkTb T2.tbl,fx:=[(42,[],Za7)],sum:=[(0,3,Yb1 Z6k Z65 (loop Z3k))],nt:=17,pin:=0,nr:=true,ys:=[] }
theorem Zt:Sound Try.prog 26 (Za6) :=
 Sound.shp (C:=Z4l) (fn:=Try.f26) (by kernel_rfl) (c:=bodyOf Try.f26) (by kernel_rfl) (by decide) (ctxOK mixed tbl_ok rfl ⟨Zv,trivial⟩ trivial) (SumOK.of ⟨(Yb2 (d:=.loop (loopOf 3 Try.f26)) (by kernel_rfl) Z3l),trivial⟩) (by kernel_rfl) Z75 Z8o rfl (by decide) (by decide) rfl (by decide) rfl Zs (fun x=>by kernel_rfl)
abbrev Z7i:Shape:={ sl:=sl_5,bl:=[],ts:=[y0,y11],pin:=0 }
abbrev Z91:Shape:={ sl:=sl_0,bl:=[],ts:=[.bool],pin:=0 }
def Z1i (x:T10):Option (Bool) :=
 (Zm x.1).bind fun r5 =>
 bif r5 then
 (Zs (x.1,x.2)).bind fun r6 =>
 some (decide (r6 < (0:Int)))
 else
 some false
abbrev Zaj:=Spec.shp Z7i Z91 Z1i
def Z51:Ctx:={ tb:=mkTb T2.tbl,fx:=[(25,[],Za3),(26,[],Za6)],sum:=[],nt:=13,pin:=0,nr:=true,ys:=[] }
theorem Z1j:Sound Try.prog 8 (Zaj) :=
 Sound.shp (C:=Z51) (fn:=Try.f8) (by kernel_rfl) (c:=bodyOf Try.f8) (by kernel_rfl) (by decide) (ctxOK mixed tbl_ok rfl ⟨Zn,Zt,trivial⟩ trivial) (SumOK.of trivial) (by kernel_rfl) Z7i Z91 rfl (by decide) (by decide) rfl (by decide) rfl Z1i (fun x=>by kernel_rfl)
abbrev Z6z:Shape:={ sl:=[],bl:=[],ts:=[],pin:=0 }
abbrev Z8i:Shape:={ sl:=sl_0,bl:=[],ts:=[.bool],pin:=0 }
def Zg (x:Unit):Option (Bool) :=
 (Z4 (([]:List Int),(((0:Int),(0:Int),(0:Int),(0:Int),(Int.negSucc 0)) :: (((0:Int),(1:Int),(1:Int),(0:Int),(Int.negSucc 0)) :: (((1:Int),(0:Int),(0:Int),(0:Int),(1:Int)) :: ([]:List T5)))),(2:Int))).bind fun r6 =>
 bif (r6.2 == (0:Int)) then
 bif ((((List.length r6.1):Nat):Int) == (1:Int)) then
 bif (inb (0:Int) (List.length r6.1)) then
 some ((getAt (0:Int) r6.1 (toN (0:Int))) == (1:Int))
 else
 none
 else
 some false
 else
 some false
abbrev Za0:=Spec.shp Z6z Z8i Zg
def Z4b:Ctx:={ tb:=mkTb T2.tbl,fx:=[(6,[2000000],Z9u)],sum:=[],nt:=24,pin:=0,nr:=true,ys:=[] }
theorem Zh:Sound Try.prog 9 (Za0) :=
 Sound.shp (C:=Z4b) (fn:=Try.f9) (by kernel_rfl) (c:=bodyOf Try.f9) (by kernel_rfl) (by decide) (ctxOK mixed tbl_ok rfl ⟨Z5,trivial⟩ trivial) (SumOK.of trivial) (by kernel_rfl) Z6z Z8i rfl (by decide) (by decide) rfl (by decide) rfl Zg (fun x=>by kernel_rfl)
abbrev Z6o:Shape:={ sl:=[(1,(.hole (.int .i64))),(2,(.hole (.int .i64))),(3,(.hole (.int .i64))),(11,(.hole y11)),(12,(.hole (.int .i64))),(13,(.hole (.int .i64)))],bl:=[],ts:=ts_10,pin:=0 }
abbrev Z69:List (ETag × Shape):=[(.ret,{ sl:=[(8,(.hole (.int .i64)))],bl:=[],ts:=ts_0,pin:=0 }),(.exit 0,{ sl:=[],bl:=[],ts:=[],pin:=0 })]
def Z3s (x:T12):Option (T12 ⊕ ((Int) ⊕ Unit)) :=
 bif (decide (x.2.2.2.2.2 < x.2.2.2.2.1)) then
 bif (inb x.2.2.2.2.2 (List.length x.2.2.2.1)) then
 bif ((getAt ((0:Int),(0:Int),(0:Int),(0:Int),(0:Int)) x.2.2.2.1 (toN x.2.2.2.2.2)).2.1 == x.1) then
 bif ((getAt ((0:Int),(0:Int),(0:Int),(0:Int),(0:Int)) x.2.2.2.1 (toN x.2.2.2.2.2)).2.2.1 == x.2.1) then
 bif ((getAt ((0:Int),(0:Int),(0:Int),(0:Int),(0:Int)) x.2.2.2.1 (toN x.2.2.2.2.2)).2.2.2.1 == x.2.2.1) then
 some (.inr (.inl (getAt ((0:Int),(0:Int),(0:Int),(0:Int),(0:Int)) x.2.2.2.1 (toN x.2.2.2.2.2)).2.2.2.2))
 else
 some (.inl (x.1,x.2.1,x.2.2.1,x.2.2.2.1,x.2.2.2.2.1,(IntKind.wrap .i64 (x.2.2.2.2.2+(1:Int)))))
 else
 some (.inl (x.1,x.2.1,x.2.2.1,x.2.2.2.1,x.2.2.2.2.1,(IntKind.wrap .i64 (x.2.2.2.2.2+(1:Int)))))
 else
 some (.inl (x.1,x.2.1,x.2.2.1,x.2.2.2.1,x.2.2.2.2.1,(IntKind.wrap .i64 (x.2.2.2.2.2+(1:Int)))))
 else
 none
 else
 some (.inr (.inr ()))
def Z56:Ctx:={ tb:=mkTb T2.tbl,fx:=[],sum:=[],nt:=36,pin:=0,nr:=true,ys:=[] }
theorem Z3t:CSound Try.prog ⟨36,0,true⟩ (.loop (loopOf 3 Try.f44)) (Yb1 Z6o Z69 (loop Z3s)) :=
 Y8e (C:=Z56) (ctxOK mixed tbl_ok rfl trivial trivial) (SumOK.of trivial) Z6o Z69 rfl rfl Z3s (fun x=>by kernel_rfl)
abbrev Z7l:Shape:={ sl:=sl_8,bl:=[],ts:=[y11,(.int .i64),(.int .i64),(.int .i64)],pin:=0 }
abbrev Z94:Shape:={ sl:=sl_1,bl:=[],ts:=ts_0,pin:=0 }
def Z1o (x:(List (T5) × Int × Int × Int)):Option (Int) :=
 (loop Z3s (x.2.1,x.2.2.1,x.2.2.2,x.1,(((List.length x.1):Nat):Int),(0:Int))).bind fun r12 =>
 match r12 with
 | .inl y13 =>
 some y13
 | .inr y13 =>
 some (Int.negSucc 0)
abbrev Zam:=Spec.shp Z7l Z94 Z1o
def Z55:Ctx:={ tb:=mkTb T2.tbl,fx:=[],sum:=[(0,3,Yb1 Z6o Z69 (loop Z3s))],nt:=36,pin:=0,nr:=true,ys:=[] }
theorem Z1p:Sound Try.prog 44 (Zam) :=
 Sound.shp (C:=Z55) (fn:=Try.f44) (by kernel_rfl) (c:=bodyOf Try.f44) (by kernel_rfl) (by decide) (ctxOK mixed tbl_ok rfl trivial trivial) (SumOK.of ⟨(Yb2 (d:=.loop (loopOf 3 Try.f44)) (by kernel_rfl) Z3t),trivial⟩) (by kernel_rfl) Z7l Z94 rfl (by decide) (by decide) rfl (by decide) rfl Z1o (fun x=>by kernel_rfl)
abbrev Z7k:Shape:={ sl:=[(0,(.hole y0)),(1,(.hole y11)),(2,(.hole (.int .i64))),(3,(.hole (.int .i64)))],bl:=[],ts:=[y0,y11,(.int .i64),(.int .i64)],pin:=0 }
abbrev Z93:Shape:={ sl:=sl_0,bl:=[],ts:=[.bool],pin:=0 }
def Z1m (x:(List Int × List (T5) × Int × Int)):Option (Bool) :=
 bif (inb x.2.2.2 (List.length x.2.1)) then
 bif (inb x.2.2.1 (List.length x.2.1)) then
 (Zq (x.2.1,x.2.2.2)).bind fun r10 =>
 bif (x.2.2.1 == r10) then
 some true
 else
 bif ((getAt ((0:Int),(0:Int),(0:Int),(0:Int),(0:Int)) x.2.1 (toN x.2.2.2)).2.1 == (0:Int)) then
 bif (x.2.2.1 == (getAt ((0:Int),(0:Int),(0:Int),(0:Int),(0:Int)) x.2.1 (toN x.2.2.2)).2.2.2.2) then
 some true
 else
 bif ((getAt ((0:Int),(0:Int),(0:Int),(0:Int),(0:Int)) x.2.1 (toN x.2.2.2)).2.1 == (5:Int)) then
 (Z1o (x.2.1,(3:Int),(getAt ((0:Int),(0:Int),(0:Int),(0:Int),(0:Int)) x.2.1 (toN x.2.2.2)).2.2.1,(getAt ((0:Int),(0:Int),(0:Int),(0:Int),(0:Int)) x.2.1 (toN x.2.2.2)).2.2.2.1)).bind fun r11 =>
 some (x.2.2.1 == r11)
 else
 bif ((getAt ((0:Int),(0:Int),(0:Int),(0:Int),(0:Int)) x.2.1 (toN x.2.2.2)).2.1 == (3:Int)) then
 bif (inb (getAt ((0:Int),(0:Int),(0:Int),(0:Int),(0:Int)) x.2.1 (toN x.2.2.2)).2.2.1 (List.length x.1)) then
 bif (decide ((getAt ((0:Int),(0:Int),(0:Int),(0:Int),(0:Int)) x.2.1 (toN x.2.2.2)).2.2.2.1 ≥ (getAt (0:Int) x.1 (toN (getAt ((0:Int),(0:Int),(0:Int),(0:Int),(0:Int)) x.2.1 (toN x.2.2.2)).2.2.1)))) then
 bif (inb (getAt ((0:Int),(0:Int),(0:Int),(0:Int),(0:Int)) x.2.1 (toN x.2.2.2)).2.2.1 (List.length x.1)) then
 (Z1o (x.2.1,(5:Int),(getAt ((0:Int),(0:Int),(0:Int),(0:Int),(0:Int)) x.2.1 (toN x.2.2.2)).2.2.1,(IntKind.wrap .i64 ((getAt ((0:Int),(0:Int),(0:Int),(0:Int),(0:Int)) x.2.1 (toN x.2.2.2)).2.2.2.1 - (getAt (0:Int) x.1 (toN (getAt ((0:Int),(0:Int),(0:Int),(0:Int),(0:Int)) x.2.1 (toN x.2.2.2)).2.2.1)))))).bind fun r11 =>
 some (x.2.2.1 == r11)
 else
 none
 else
 some false
 else
 none
 else
 bif ((getAt ((0:Int),(0:Int),(0:Int),(0:Int),(0:Int)) x.2.1 (toN x.2.2.2)).2.1 == (6:Int)) then
 bif ((getAt ((0:Int),(0:Int),(0:Int),(0:Int),(0:Int)) x.2.1 (toN x.2.2.1)).2.1 == (7:Int)) then
 some ((getAt ((0:Int),(0:Int),(0:Int),(0:Int),(0:Int)) x.2.1 (toN x.2.2.1)).2.2.1 == (getAt ((0:Int),(0:Int),(0:Int),(0:Int),(0:Int)) x.2.1 (toN x.2.2.2)).2.2.1)
 else
 some false
 else
 bif ((getAt ((0:Int),(0:Int),(0:Int),(0:Int),(0:Int)) x.2.1 (toN x.2.2.2)).2.1 == (11:Int)) then
 bif ((getAt ((0:Int),(0:Int),(0:Int),(0:Int),(0:Int)) x.2.1 (toN x.2.2.1)).2.1 == (12:Int)) then
 some ((getAt ((0:Int),(0:Int),(0:Int),(0:Int),(0:Int)) x.2.1 (toN x.2.2.1)).2.2.1 == (getAt ((0:Int),(0:Int),(0:Int),(0:Int),(0:Int)) x.2.1 (toN x.2.2.2)).2.2.1)
 else
 some false
 else
 bif ((getAt ((0:Int),(0:Int),(0:Int),(0:Int),(0:Int)) x.2.1 (toN x.2.2.2)).2.1 == (15:Int)) then
 bif ((getAt ((0:Int),(0:Int),(0:Int),(0:Int),(0:Int)) x.2.1 (toN x.2.2.1)).2.1 == (14:Int)) then
 some ((getAt ((0:Int),(0:Int),(0:Int),(0:Int),(0:Int)) x.2.1 (toN x.2.2.1)).2.2.1 == (getAt ((0:Int),(0:Int),(0:Int),(0:Int),(0:Int)) x.2.1 (toN x.2.2.2)).2.2.1)
 else
 some false
 else
 some false
 else
 bif ((getAt ((0:Int),(0:Int),(0:Int),(0:Int),(0:Int)) x.2.1 (toN x.2.2.2)).2.1 == (5:Int)) then
 (Z1o (x.2.1,(3:Int),(getAt ((0:Int),(0:Int),(0:Int),(0:Int),(0:Int)) x.2.1 (toN x.2.2.2)).2.2.1,(getAt ((0:Int),(0:Int),(0:Int),(0:Int),(0:Int)) x.2.1 (toN x.2.2.2)).2.2.2.1)).bind fun r11 =>
 some (x.2.2.1 == r11)
 else
 bif ((getAt ((0:Int),(0:Int),(0:Int),(0:Int),(0:Int)) x.2.1 (toN x.2.2.2)).2.1 == (3:Int)) then
 bif (inb (getAt ((0:Int),(0:Int),(0:Int),(0:Int),(0:Int)) x.2.1 (toN x.2.2.2)).2.2.1 (List.length x.1)) then
 bif (decide ((getAt ((0:Int),(0:Int),(0:Int),(0:Int),(0:Int)) x.2.1 (toN x.2.2.2)).2.2.2.1 ≥ (getAt (0:Int) x.1 (toN (getAt ((0:Int),(0:Int),(0:Int),(0:Int),(0:Int)) x.2.1 (toN x.2.2.2)).2.2.1)))) then
 bif (inb (getAt ((0:Int),(0:Int),(0:Int),(0:Int),(0:Int)) x.2.1 (toN x.2.2.2)).2.2.1 (List.length x.1)) then
 (Z1o (x.2.1,(5:Int),(getAt ((0:Int),(0:Int),(0:Int),(0:Int),(0:Int)) x.2.1 (toN x.2.2.2)).2.2.1,(IntKind.wrap .i64 ((getAt ((0:Int),(0:Int),(0:Int),(0:Int),(0:Int)) x.2.1 (toN x.2.2.2)).2.2.2.1 - (getAt (0:Int) x.1 (toN (getAt ((0:Int),(0:Int),(0:Int),(0:Int),(0:Int)) x.2.1 (toN x.2.2.2)).2.2.1)))))).bind fun r11 =>
 some (x.2.2.1 == r11)
 else
 none
 else
 some false
 else
 none
 else
 bif ((getAt ((0:Int),(0:Int),(0:Int),(0:Int),(0:Int)) x.2.1 (toN x.2.2.2)).2.1 == (6:Int)) then
 bif ((getAt ((0:Int),(0:Int),(0:Int),(0:Int),(0:Int)) x.2.1 (toN x.2.2.1)).2.1 == (7:Int)) then
 some ((getAt ((0:Int),(0:Int),(0:Int),(0:Int),(0:Int)) x.2.1 (toN x.2.2.1)).2.2.1 == (getAt ((0:Int),(0:Int),(0:Int),(0:Int),(0:Int)) x.2.1 (toN x.2.2.2)).2.2.1)
 else
 some false
 else
 bif ((getAt ((0:Int),(0:Int),(0:Int),(0:Int),(0:Int)) x.2.1 (toN x.2.2.2)).2.1 == (11:Int)) then
 bif ((getAt ((0:Int),(0:Int),(0:Int),(0:Int),(0:Int)) x.2.1 (toN x.2.2.1)).2.1 == (12:Int)) then
 some ((getAt ((0:Int),(0:Int),(0:Int),(0:Int),(0:Int)) x.2.1 (toN x.2.2.1)).2.2.1 == (getAt ((0:Int),(0:Int),(0:Int),(0:Int),(0:Int)) x.2.1 (toN x.2.2.2)).2.2.1)
 else
 some false
 else
 bif ((getAt ((0:Int),(0:Int),(0:Int),(0:Int),(0:Int)) x.2.1 (toN x.2.2.2)).2.1 == (15:Int)) then
 bif ((getAt ((0:Int),(0:Int),(0:Int),(0:Int),(0:Int)) x.2.1 (toN x.2.2.1)).2.1 == (14:Int)) then
 some ((getAt ((0:Int),(0:Int),(0:Int),(0:Int),(0:Int)) x.2.1 (toN x.2.2.1)).2.2.1 == (getAt ((0:Int),(0:Int),(0:Int),(0:Int),(0:Int)) x.2.1 (toN x.2.2.2)).2.2.1)
 else
 some false
 else
 some false
 else
 none
 else
 none
abbrev Zal:=Spec.shp Z7k Z93 Z1m
def Z54:Ctx:={ tb:=mkTb T2.tbl,fx:=[(43,[],Za5),(44,[],Zam)],sum:=[],nt:=114,pin:=0,nr:=true,ys:=[] }
theorem Z1n:Sound Try.prog 27 (Zal) :=
 Sound.shp (C:=Z54) (fn:=Try.f27) (by kernel_rfl) (c:=bodyOf Try.f27) (by kernel_rfl) (by decide) (ctxOK mixed tbl_ok rfl ⟨Zr,Z1p,trivial⟩ trivial) (SumOK.of trivial) (by kernel_rfl) Z7k Z93 rfl (by decide) (by decide) rfl (by decide) rfl Z1m (fun x=>by kernel_rfl)
abbrev Z6n:Shape:={ sl:=[(0,(.hole y0)),(1,(.hole y11)),(2,(.hole (.int .i64))),(7,(.sl 0)),(8,(.hole (.int .i64)))],bl:=[.row (.int .i64)],ts:=[y0,y11,(.int .i64),(.int .i64),y0],pin:=0 }
abbrev Z68:List (ETag × Shape):=[(.exit 0,{ sl:=[(7,(.sl 0))],bl:=[.row (.int .i64)],ts:=[y0],pin:=0 })]
def Z3q (x:(List Int × List (T5) × Int × Int × List Int)):Option ((List Int × List (T5) × Int × Int × List Int) ⊕ (List Int)) :=
 bif (decide (x.2.2.2.1 < x.2.2.1)) then
 (Z1m (x.1,x.2.1,x.2.2.2.1,x.2.2.1)).bind fun r9 =>
 bif r9 then
 bif (fits ((List.length x.2.2.2.2)+(List.length (x.2.2.2.1 :: ([]:List Int))))) then
 some (.inl (x.1,x.2.1,x.2.2.1,(IntKind.wrap .i64 (x.2.2.2.1+(1:Int))),(x.2.2.2.2++(x.2.2.2.1 :: ([]:List Int)))))
 else
 none
 else
 some (.inl (x.1,x.2.1,x.2.2.1,(IntKind.wrap .i64 (x.2.2.2.1+(1:Int))),x.2.2.2.2))
 else
 some (.inr x.2.2.2.2)
def Z53:Ctx:={ tb:=mkTb T2.tbl,fx:=[(27,[],Zal)],sum:=[],nt:=25,pin:=0,nr:=true,ys:=[] }
theorem Z3r:CSound Try.prog ⟨25,0,true⟩ (.loop (loopOf 4 Try.f11)) (Yb1 Z6n Z68 (loop Z3q)) :=
 Y8e (C:=Z53) (ctxOK mixed tbl_ok rfl ⟨Z1n,trivial⟩ trivial) (SumOK.of trivial) Z6n Z68 rfl rfl Z3q (fun x=>by kernel_rfl)
abbrev Z7j:Shape:={ sl:=sl_6,bl:=[],ts:=ts_9,pin:=0 }
abbrev Z92:Shape:={ sl:=[(0,(.hole y0))],bl:=[],ts:=[y0],pin:=0 }
def Z1k (x:T11):Option (List Int) :=
 (loop Z3q (x.1,x.2.1,x.2.2,(0:Int),([]:List Int))).bind fun r8 =>
 some r8
abbrev Zak:=Spec.shp Z7j Z92 Z1k
def Z52:Ctx:={ tb:=mkTb T2.tbl,fx:=[(27,[],Zal)],sum:=[(0,4,Yb1 Z6n Z68 (loop Z3q))],nt:=25,pin:=0,nr:=true,ys:=[] }
theorem Z1l:Sound Try.prog 11 (Zak) :=
 Sound.shp (C:=Z52) (fn:=Try.f11) (by kernel_rfl) (c:=bodyOf Try.f11) (by kernel_rfl) (by decide) (ctxOK mixed tbl_ok rfl ⟨Z1n,trivial⟩ trivial) (SumOK.of ⟨(Yb2 (d:=.loop (loopOf 4 Try.f11)) (by kernel_rfl) Z3r),trivial⟩) (by kernel_rfl) Z7j Z92 rfl (by decide) (by decide) rfl (by decide) rfl Z1k (fun x=>by kernel_rfl)
abbrev Z6g:Shape:={ sl:=[(0,(.hole y0)),(1,(.hole y0)),(12,(.hole (.int .i64))),(13,(.hole (.int .i64)))],bl:=[],ts:=[y0,y0,(.int .i64),(.int .i64)],pin:=0 }
abbrev Z61:List (ETag × Shape):=[(.ret,{ sl:=[(4,(.hole .bool))],bl:=[],ts:=[.bool],pin:=0 }),(.exit 0,{ sl:=[],bl:=[],ts:=[],pin:=0 })]
def Z3c (x:T4):Option (T4 ⊕ ((Bool) ⊕ Unit)) :=
 bif (decide (x.2.2.2 < x.2.2.1)) then
 bif (inb x.2.2.2 (List.length x.1)) then
 bif (inb x.2.2.2 (List.length x.2.1)) then
 bif ((getAt (0:Int) x.1 (toN x.2.2.2)) != (getAt (0:Int) x.2.1 (toN x.2.2.2))) then
 some (.inr (.inl false))
 else
 some (.inl (x.1,x.2.1,x.2.2.1,(IntKind.wrap .i64 (x.2.2.2+(1:Int)))))
 else
 none
 else
 none
 else
 some (.inr (.inr ()))
def Z4e:Ctx:={ tb:=mkTb T2.tbl,fx:=[],sum:=[],nt:=26,pin:=0,nr:=true,ys:=[] }
theorem Z3d:CSound Try.prog ⟨26,0,true⟩ (.loop (loopOf 5 Try.f10)) (Yb1 Z6g Z61 (loop Z3c)) :=
 Y8e (C:=Z4e) (ctxOK mixed tbl_ok rfl trivial trivial) (SumOK.of trivial) Z6g Z61 rfl rfl Z3c (fun x=>by kernel_rfl)
abbrev Z71:Shape:={ sl:=[(0,(.hole y0)),(1,(.hole y0))],bl:=[],ts:=[y0,y0],pin:=0 }
abbrev Z8k:Shape:={ sl:=sl_0,bl:=[],ts:=[.bool],pin:=0 }
def Zk (x:(List Int × List Int)):Option (Bool) :=
 bif ((((List.length x.1):Nat):Int) != (((List.length x.2):Nat):Int)) then
 some false
 else
 (loop Z3c (x.1,x.2,(((List.length x.1):Nat):Int),(0:Int))).bind fun r9 =>
 match r9 with
 | .inl y10 =>
 some y10
 | .inr y10 =>
 some true
abbrev Za2:=Spec.shp Z71 Z8k Zk
def Z4d:Ctx:={ tb:=mkTb T2.tbl,fx:=[],sum:=[(0,5,Yb1 Z6g Z61 (loop Z3c))],nt:=26,pin:=0,nr:=true,ys:=[] }
theorem Zl:Sound Try.prog 10 (Za2) :=
 Sound.shp (C:=Z4d) (fn:=Try.f10) (by kernel_rfl) (c:=bodyOf Try.f10) (by kernel_rfl) (by decide) (ctxOK mixed tbl_ok rfl trivial trivial) (SumOK.of ⟨(Yb2 (d:=.loop (loopOf 5 Try.f10)) (by kernel_rfl) Z3d),trivial⟩) (by kernel_rfl) Z71 Z8k rfl (by decide) (by decide) rfl (by decide) rfl Zk (fun x=>by kernel_rfl)
abbrev Z6f:Shape:={ sl:=[(0,(.hole y0)),(1,(.hole y11)),(2,(.hole (.int .i64))),(7,(.hole y0)),(8,(.hole (.int .i64))),(9,(.hole (.slice y0))),(69,(.hole (.int .i64))),(70,(.hole (.int .i64)))],bl:=[],ts:=[y0,y11,(.int .i64),y0,(.int .i64),(.slice y0),(.int .i64),(.int .i64)],pin:=0 }
abbrev Z60:List (ETag × Shape):=[(.ret,{ sl:=[(6,(.hole .bool))],bl:=[],ts:=[.bool],pin:=0 }),(.exit 0,{ sl:=[(0,(.hole y0)),(1,(.hole y11)),(2,(.hole (.int .i64))),(7,(.hole y0)),(8,(.hole (.int .i64)))],bl:=[],ts:=[y0,y11,(.int .i64),y0,(.int .i64)],pin:=0 })]
def Z3a (x:(List Int × List (T5) × Int × List Int × Int × List (List Int) × Int × Int)):Option ((List Int × List (T5) × Int × List Int × Int × List (List Int) × Int × Int) ⊕ ((Bool) ⊕ (List Int × List (T5) × Int × List Int × Int))) :=
 bif (decide (x.2.2.2.2.2.2.2 < x.2.2.2.2.2.2.1)) then
 bif (inb x.2.2.2.2.2.2.2 (List.length x.2.2.2.2.2.1)) then
 (Z1k (x.1,x.2.1,x.2.2.2.2.2.2.2)).bind fun r7 =>
 (Zk ((getAt ([]:List Int) x.2.2.2.2.2.1 (toN x.2.2.2.2.2.2.2)),r7)).bind fun r8 =>
 bif (Bool.not r8) then
 some (.inr (.inl false))
 else
 some (.inl (x.1,x.2.1,x.2.2.1,x.2.2.2.1,x.2.2.2.2.1,x.2.2.2.2.2.1,x.2.2.2.2.2.2.1,(IntKind.wrap .i64 (x.2.2.2.2.2.2.2+(1:Int)))))
 else
 none
 else
 some (.inr (.inr (x.1,x.2.1,x.2.2.1,x.2.2.2.1,x.2.2.2.2.1)))
def Z4a:Ctx:={ tb:=mkTb T2.tbl,fx:=[(5,[],Za1),(6,[],Z9u),(7,[],Z9t),(8,[],Zaj),(9,[],Za0),(11,[],Zak),(10,[],Za2)],sum:=[],nt:=109,pin:=0,nr:=true,ys:=[],rw:=[(1,[0])] }
theorem Z3b:CSound Try.prog ⟨109,0,true⟩ (.loop (loopOf 10 Try.f3)) (Yb1 Z6f Z60 (loop Z3a)) :=
 Y8e (C:=Z4a) (ctxOK mixed tbl_ok rfl ⟨Zj,Z5,Z1,Z1j,Zh,Z1l,Zl,trivial⟩ trivial) (SumOK.of trivial) Z6f Z60 rfl rfl Z3a (fun x=>by kernel_rfl)
def F_plaitlaw15_EdgesTell (x:T11):Option (Bool) :=
 bif (sub3 (0:Int) (Min.min (((List.length x.1):Nat):Int) (6:Int)) (List.length x.1)) then
 (Zi x.2.1).bind fun r1 =>
 (Z4 ((cut x.1 (toN (0:Int)) ((toN (Min.min (((List.length x.1):Nat):Int) (6:Int))) - (toN (0:Int)))),r1,x.2.2)).bind fun r2 =>
 (Z0 ((cut x.1 (toN (0:Int)) ((toN (Min.min (((List.length x.1):Nat):Int) (6:Int))) - (toN (0:Int)))),r1)).bind fun r3 =>
 (Z1i ((cut x.1 (toN (0:Int)) ((toN (Min.min (((List.length x.1):Nat):Int) (6:Int))) - (toN (0:Int)))),r1)).bind fun r4 =>
 bif (Bool.not r4) then
 (Zg ()).bind fun r5 =>
 bif r5 then
 bif (r2.2 == (1:Int)) then
 bif (r3.2 == (1:Int)) then
 bif ((((List.length r2.1):Nat):Int) == (0:Int)) then
 some ((((List.length r3.1):Nat):Int) == (0:Int))
 else
 some false
 else
 some false
 else
 some false
 else
 some false
 else
 bif (r3.2 != (0:Int)) then
 some false
 else
 bif ((((List.length r3.1):Nat):Int) != (((List.length r1):Nat):Int)) then
 some false
 else
 (Zg ()).bind fun r5 =>
 bif (Bool.not r5) then
 some false
 else
 (loop Z3a ((cut x.1 (toN (0:Int)) ((toN (Min.min (((List.length x.1):Nat):Int) (6:Int))) - (toN (0:Int)))),r1,x.2.2,r2.1,r2.2,r3.1,(((List.length r1):Nat):Int),(0:Int))).bind fun r6 =>
 match r6 with
 | .inl y7 =>
 some y7
 | .inr y7 =>
 bif (decide (y7.2.2.1 < (0:Int))) then
 bif (y7.2.2.2.2 == (3:Int)) then
 some ((((List.length y7.2.2.2.1):Nat):Int) == (0:Int))
 else
 some false
 else
 bif (decide (y7.2.2.1 ≥ (((List.length y7.2.1):Nat):Int))) then
 bif (y7.2.2.2.2 == (3:Int)) then
 some ((((List.length y7.2.2.2.1):Nat):Int) == (0:Int))
 else
 some false
 else
 bif (y7.2.2.2.2 == (0:Int)) then
 (Z1k (y7.1,y7.2.1,y7.2.2.1)).bind fun r8 =>
 (Zk (y7.2.2.2.1,r8)).bind fun r9 =>
 some r9
 else
 some false
 else
 none
def Z49:Ctx:={ tb:=mkTb T2.tbl,fx:=[(5,[],Za1),(6,[],Z9u),(7,[],Z9t),(8,[],Zaj),(9,[],Za0),(11,[],Zak),(10,[],Za2)],sum:=[(0,10,Yb1 Z6f Z60 (loop Z3a))],nt:=109,pin:=0,nr:=true,ys:=[],rw:=[(1,[0])] }
theorem F_plaitlaw15_EdgesTell_ok:Sound Try.prog 3 (Spec.pure [y0,y11,(.int .i64)] [.bool] F_plaitlaw15_EdgesTell) :=
 Sound.pure (C:=Z49) (fn:=Try.f3) (by kernel_rfl) (c:=bodyOf Try.f3) (by kernel_rfl) (by decide) (ctxOK mixed tbl_ok rfl ⟨Zj,Z5,Z1,Z1j,Zh,Z1l,Zl,trivial⟩) (SumOK.of ⟨(Yb2 (d:=.loop (loopOf 10 Try.f3)) (by kernel_rfl) Z3b),trivial⟩) (by kernel_rfl) rfl _ _ (by decide) _ (fun x=>by kernel_rfl)
end
end Go.Proofs.Ytifbgkikkiallaa.VX.VxE_E

