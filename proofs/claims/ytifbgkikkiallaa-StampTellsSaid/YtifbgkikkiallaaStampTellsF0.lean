/- Laid for the law StampTells. -/
import Derived.Test.YtifbgkikkiallaaStampTellsE15
import Derived.Test.YtifbgkikkiallaaStampTellsE18
import Derived.Test.YtifbgkikkiallaaStampTellsE19
set_option linter.unusedVariables false
set_option maxRecDepth 100000
namespace Go.Proofs.Ytifbgkikkiallaa.VX.VxE_S
open Go.Proofs Go.Proofs.Ytifbgkikkiallaa.VX.T2
noncomputable section
theorem mixed:Try.prog.follows .mixedOrders=true:=by kernel_rfl
abbrev T0:=Int × Bool
abbrev T1:=Int × List Int
abbrev T2:=List Int × Int
abbrev T3:=Int × (Int × Int)
abbrev T4:=(Int × Int) × Int
abbrev T5:=List Int × List Int
abbrev T6:=List Int × Int × Int
abbrev T7:=List Int × Int × Int × List Int
abbrev T8:=List Int × List Int × Int × Int
abbrev T9:=Int × (Int × T3)
abbrev T10:=(Int × T0) × Int
abbrev T11:=Int × List Int × List Int × Int × List (T4) × List (Int × Int) × List (Int × Int)
abbrev T12:=Bool × List Int × List Int × Int × List (T4) × List (Int × Int) × List (Int × Int)
abbrev T13:=List (T9) × Int
abbrev T14:=List Int × List (T9)
abbrev T15:=List Int × List (T9) × Int
abbrev T16:=Int × Int × Int × List (T9) × Int × Int
abbrev T17:=T9 × List Int × List Int × Int × List (T4) × List (Int × Int) × List (Int × Int)
abbrev T18:=List (T9) × T9 × List Int × List Int × Int × List (T4) × List (Int × Int) × List (Int × Int)
abbrev y0:Ty:=.slice (.int .i64)
abbrev y1:Ty:=.arr 8 (.int .i64)
abbrev y2:Ty:=.arr 16 (.int .i64)
abbrev y3:Ty:=.pair (.int .i64) .bool
abbrev y4:Ty:=.pair (.int .i64) (.int .i64)
abbrev y5:Ty:=.pair (.int .i64) y4
abbrev y6:Ty:=.pair y4 (.int .i64)
abbrev y7:Ty:=.pair (.int .i64) y3
abbrev y8:Ty:=.pair (.int .i64) y0
abbrev y9:Ty:=.pair (.int .i64) y5
abbrev y10:Ty:=.pair y7 (.int .i64)
abbrev y11:Ty:=.slice y10
abbrev y12:Ty:=.pair (.int .i64) y9
abbrev y13:Ty:=.slice y12
abbrev bl_0:List BPat:=[.var (.pr (.hole y0) (.pr (.mp 1) (.pr (.hole y1) (.pr (.hole (.int .i64)) (.pr (.mp 2) (.pr (.mp 3) (.mp 4))))))),.mp y4 (.int .i64),.mp (.int .i64) (.int .i64),.mp (.int .i64) (.int .i64),.fm [1,3,5,6,7,11,12,14,15] (.cons (.fn 55 .nil (.cons (.ptr 5 []) .nil)) (.cons (.fn 56 .nil (.cons (.ptr 5 []) .nil)) (.cons (.fn 58 .nil (.cons (.ptr 5 []) .nil)) (.cons (.fn 59 .nil (.cons (.ptr 5 []) .nil)) (.cons (.fn 60 .nil (.cons (.ptr 5 []) .nil)) (.cons (.fn 61 .nil (.cons (.ptr 6 []) .nil)) (.cons (.fn 62 .nil (.cons (.ptr 6 []) .nil)) (.cons (.fn 63 .nil (.cons (.ptr 5 []) .nil)) (.cons (.fn 64 .nil (.cons (.ptr 5 []) .nil)) .nil))))))))),.var (.ptr 0 []),.var (.fn 53 .nil (.cons (.ptr 5 []) .nil))]
abbrev bl_1:List BPat:=[.var (.ptr 1 []),.var (.pr (.hole y0) (.pr (.mp 2) (.pr (.hole y1) (.pr (.hole (.int .i64)) (.pr (.mp 3) (.pr (.mp 4) (.mp 5))))))),.mp y4 (.int .i64),.mp (.int .i64) (.int .i64),.mp (.int .i64) (.int .i64),.fm [1,3,5,6,7,11,12,14,15] (.cons (.fn 55 .nil (.cons (.ptr 0 []) .nil)) (.cons (.fn 56 .nil (.cons (.ptr 0 []) .nil)) (.cons (.fn 58 .nil (.cons (.ptr 0 []) .nil)) (.cons (.fn 59 .nil (.cons (.ptr 0 []) .nil)) (.cons (.fn 60 .nil (.cons (.ptr 0 []) .nil)) (.cons (.fn 61 .nil (.cons (.ptr 6 []) .nil)) (.cons (.fn 62 .nil (.cons (.ptr 6 []) .nil)) (.cons (.fn 63 .nil (.cons (.ptr 0 []) .nil)) (.cons (.fn 64 .nil (.cons (.ptr 0 []) .nil)) .nil))))))))),.var (.fn 53 .nil (.cons (.ptr 0 []) .nil))]
abbrev bl_2:List BPat:=[.var (.fn 53 .nil (.cons (.ptr 1 []) .nil)),.var (.ptr 2 []),.var (.pr (.hole y0) (.pr (.mp 3) (.pr (.hole y1) (.pr (.hole (.int .i64)) (.pr (.mp 4) (.pr (.mp 5) (.mp 6))))))),.mp y4 (.int .i64),.mp (.int .i64) (.int .i64),.mp (.int .i64) (.int .i64),.fm [1,3,5,6,7,11,12,14,15] (.cons (.fn 55 .nil (.cons (.ptr 1 []) .nil)) (.cons (.fn 56 .nil (.cons (.ptr 1 []) .nil)) (.cons (.fn 58 .nil (.cons (.ptr 1 []) .nil)) (.cons (.fn 59 .nil (.cons (.ptr 1 []) .nil)) (.cons (.fn 60 .nil (.cons (.ptr 1 []) .nil)) (.cons (.fn 61 .nil (.cons (.ptr 0 []) .nil)) (.cons (.fn 62 .nil (.cons (.ptr 0 []) .nil)) (.cons (.fn 63 .nil (.cons (.ptr 1 []) .nil)) (.cons (.fn 64 .nil (.cons (.ptr 1 []) .nil)) .nil)))))))))]
abbrev bl_3:List BPat:=[.var (.pr (.hole y0) (.pr (.mp 1) (.pr (.mp 2) (.pr (.mp 3) (.pr (.mp 4) (.mp 5)))))),.mp y7 (.int .i64),.mp (.int .i64) (.int .i64),.mp (.int .i64) (.int .i64),.mo (.int .i64) (.int .i64),.mp (.int .i64) (.int .i64)]
abbrev bl_4:List BPat:=[.lpt 458764 [12] (.cons (.ptr 4 []) .nil),.var (.ptr 5 []),.var (.hole y12),.var (.hole (.int .i64)),.var (.sl 11),.var (.pr (.hole y0) (.pr (.mp 6) (.pr (.mp 7) (.pr (.mp 8) (.pr (.mp 9) (.mp 10)))))),.mp y7 (.int .i64),.mp (.int .i64) (.int .i64),.mp (.int .i64) (.int .i64),.mo (.int .i64) (.int .i64),.mp (.int .i64) (.int .i64),.row (.int .i64)]
abbrev bl_5:List BPat:=[.lp 458764 [12] (.cons (.ptr 4 []) .nil),.var (.ptr 5 []),.var (.hole y12),.var (.hole (.int .i64)),.var (.sl 11),.var (.pr (.hole y0) (.pr (.mp 6) (.pr (.mp 7) (.pr (.mp 8) (.pr (.mp 9) (.mp 10)))))),.mp y7 (.int .i64),.mp (.int .i64) (.int .i64),.mp (.int .i64) (.int .i64),.mo (.int .i64) (.int .i64),.mp (.int .i64) (.int .i64),.row (.int .i64)]
abbrev bl_6:List BPat:=[.var (.fn 104 .nil .nil)]
abbrev bl_7:List BPat:=[.var (.fn 84 .nil .nil)]
abbrev bl_8:List BPat:=[.row (.int .i64)]
abbrev ts_0:List Ty:=[(.int .i64)]
abbrev ts_1:List Ty:=[y13,y12,y0,y1,(.int .i64),(.slice y6),(.slice y4),(.slice y4)]
abbrev ts_2:List Ty:=[.bool,y0,y1,(.int .i64),(.slice y6),(.slice y4),(.slice y4)]
abbrev ts_3:List Ty:=[(.int .i64),y0,y1,(.int .i64),(.slice y6),(.slice y4),(.slice y4)]
abbrev ts_4:List Ty:=[y12,y0,y1,(.int .i64),(.slice y6),(.slice y4),(.slice y4)]
abbrev ts_5:List Ty:=[y0,y11,(.slice y4),(.slice y4),(.slice y8),(.slice y4)]
abbrev ts_6:List Ty:=[(.int .i64),y12,y0,y11,(.slice y4),(.slice y4),(.slice y8),(.slice y4)]
abbrev ts_7:List Ty:=[(.int .i64),y12,(.int .i64),y0,y11,(.slice y4),(.slice y4),(.slice y8),(.slice y4),y0]
abbrev ts_8:List Ty:=[y12,(.int .i64),y0,y11,(.slice y4),(.slice y4),(.slice y8),(.slice y4),y0]
abbrev ts_9:List Ty:=[y0,(.int .i64)]
abbrev ts_10:List Ty:=[y0,y13,(.int .i64)]
abbrev ts_11:List Ty:=[(.int .i64),(.int .i64),(.int .i64),y13,(.int .i64),(.int .i64)]
abbrev sl_0:List (Nat × Pat):=[(0,(.hole .bool))]
abbrev sl_1:List (Nat × Pat):=[(0,(.hole (.int .i64)))]
abbrev sl_2:List (Nat × Pat):=[(0,(.ptr 0 [])),(1,(.hole y13)),(2,(.hole y12))]
abbrev sl_3:List (Nat × Pat):=[(0,(.hole y12)),(1,(.ptr 0 []))]
abbrev sl_4:List (Nat × Pat):=[(0,(.ptr 0 [])),(1,(.hole (.int .i64))),(2,(.hole y12))]
abbrev sl_5:List (Nat × Pat):=[(0,(.hole y0)),(1,(.hole y13))]
abbrev sl_6:List (Nat × Pat):=[(0,(.hole y0))]
abbrev sl_7:List (Nat × Pat):=[(0,(.hole (.slice y0))),(1,(.fn 102 .nil (.cons (.ptr 0 []) .nil)))]
abbrev sl_8:List (Nat × Pat):=[(0,(.hole y0)),(1,(.hole (.int .i64)))]
abbrev sl_9:List (Nat × Pat):=[(0,(.hole y0)),(1,(.hole y13)),(2,(.hole (.int .i64)))]
abbrev sl_10:List (Nat × Pat):=[(0,(.hole y13)),(1,(.hole (.int .i64)))]
abbrev sl_11:List (Nat × Pat):=[(0,(.hole y13)),(1,(.hole (.int .i64))),(2,(.hole (.int .i64))),(3,(.hole (.int .i64)))]
abbrev Zb3:Shape:={ sl:=[(0,(.hole y13))],bl:=[],ts:=[y13],pin:=0 }
abbrev Zdc:Shape:={ sl:=[(0,(.hole y13))],bl:=[],ts:=[y13],pin:=0 }
def Zg (x:(List (T9))):Option (List (T9)) :=
 bif (sub3 (0:Int) (Min.min (((List.length x):Nat):Int) (100:Int)) (List.length x)) then
 some (cut x (toN (0:Int)) ((toN (Min.min (((List.length x):Nat):Int) (100:Int))) - (toN (0:Int))))
 else
 none
abbrev Zfk:=Spec.shp Zb3 Zdc Zg
def Z6j:Ctx:={ tb:=mkTb T2.tbl,fx:=[],sum:=[],nt:=8,pin:=0,nr:=true,ys:=[] }
theorem Zh:Sound Try.prog 12 (Zfk) :=
 Sound.shp (C:=Z6j) (fn:=Try.f12) (by kernel_rfl) (c:=bodyOf Try.f12) (by kernel_rfl) (by decide) (ctxOK mixed tbl_ok rfl trivial trivial) (SumOK.of trivial) (by kernel_rfl) Zb3 Zdc rfl (by decide) (by decide) rfl (by decide) rfl Zg (fun x=>by kernel_rfl)
abbrev Zc9:Shape:={ sl:=[(0,(.hole (.int .i64))),(1,(.hole (.int .i64))),(2,(.hole (.int .i64)))],bl:=[],ts:=[(.int .i64),(.int .i64),(.int .i64)],pin:=0 }
abbrev Zei:Shape:={ sl:=sl_0,bl:=[],ts:=[.bool],pin:=0 }
def Z2s (x:(Int × Int × Int)):Option (Bool) :=
 bif (decide (x.1 ≥ x.2.1)) then
 some (decide (x.1 ≤ x.2.2))
 else
 some false
abbrev Zgq:=Spec.shp Zc9 Zei Z2s
def Z8c:Ctx:={ tb:=mkTb T2.tbl,fx:=[],sum:=[],nt:=15,pin:=0,nr:=true,ys:=[] }
theorem Z2t:Sound Try.prog 34 (Zgq) :=
 Sound.shp (C:=Z8c) (fn:=Try.f34) (by kernel_rfl) (c:=bodyOf Try.f34) (by kernel_rfl) (by decide) (ctxOK mixed tbl_ok rfl trivial trivial) (SumOK.of trivial) (by kernel_rfl) Zc9 Zei rfl (by decide) (by decide) rfl (by decide) rfl Z2s (fun x=>by kernel_rfl)
abbrev Zc8:Shape:={ sl:=sl_1,bl:=[],ts:=ts_0,pin:=0 }
abbrev Zeh:Shape:={ sl:=sl_0,bl:=[],ts:=[.bool],pin:=0 }
def Z2p (x:(Int)):Option (Bool) :=
 (Z2s (x,(Int.negSucc 0),(3:Int))).bind fun r9 =>
 some (Bool.not r9)
abbrev Zgp:=Spec.shp Zc8 Zeh Z2p
def Z8a:Ctx:={ tb:=mkTb T2.tbl,fx:=[(34,[],Zgq)],sum:=[],nt:=6,pin:=0,nr:=true,ys:=[] }
theorem Z2q:Sound Try.prog 33 (Zgp) :=
 Sound.shp (C:=Z8a) (fn:=Try.f33) (by kernel_rfl) (c:=bodyOf Try.f33) (by kernel_rfl) (by decide) (ctxOK mixed tbl_ok rfl ⟨Z2t,trivial⟩ trivial) (SumOK.of trivial) (by kernel_rfl) Zc8 Zeh rfl (by decide) (by decide) rfl (by decide) rfl Z2p (fun x=>by kernel_rfl)
abbrev Zan:Shape:={ sl:=[(0,(.hole y0)),(1,(.fn 33 .nil .nil)),(7,(.hole (.int .i64))),(8,(.hole (.int .i64)))],bl:=[],ts:=[y0,(.int .i64),(.int .i64)],pin:=0 }
abbrev Z9u:List (ETag × Shape):=[(.ret,{ sl:=[(4,(.hole (.int .i64)))],bl:=[],ts:=ts_0,pin:=0 }),(.exit 0,{ sl:=[],bl:=[],ts:=[],pin:=0 })]
def Z5q (x:T6):Option (T6 ⊕ ((Int) ⊕ Unit)) :=
 bif (decide (x.2.2 < x.2.1)) then
 bif (inb x.2.2 (List.length x.1)) then
 (Z2p (getAt (0:Int) x.1 (toN x.2.2))).bind fun r8 =>
 bif r8 then
 some (.inr (.inl x.2.2))
 else
 some (.inl (x.1,x.2.1,(IntKind.wrap .i64 (x.2.2+(1:Int)))))
 else
 none
 else
 some (.inr (.inr ()))
def Z7y:Ctx:={ tb:=mkTb T2.tbl,fx:=[(33,[],Zgp)],sum:=[],nt:=19,pin:=0,nr:=true,ys:=[] }
theorem Z5r:CSound Try.prog ⟨19,0,true⟩ (.loop (loopOf 3 Try.f52)) (Yby Zan Z9u (loop Z5q)) :=
 Y9b (C:=Z7y) (ctxOK mixed tbl_ok rfl ⟨Z2q,trivial⟩ trivial) (SumOK.of trivial) Zan Z9u rfl rfl Z5q (fun x=>by kernel_rfl)
abbrev Zc0:Shape:={ sl:=[(0,(.hole y0)),(1,(.fn 33 .nil .nil))],bl:=[],ts:=[y0],pin:=0 }
abbrev Ze9:Shape:={ sl:=sl_1,bl:=[],ts:=ts_0,pin:=0 }
def Z2a (x:(List Int)):Option (Int) :=
 (loop Z5q (x,(((List.length x):Nat):Int),(0:Int))).bind fun r7 =>
 match r7 with
 | .inl y8 =>
 some y8
 | .inr y8 =>
 some (Int.negSucc 0)
abbrev Zgh:=Spec.shp Zc0 Ze9 Z2a
def Z7x:Ctx:={ tb:=mkTb T2.tbl,fx:=[(33,[],Zgp)],sum:=[(0,3,Yby Zan Z9u (loop Z5q))],nt:=19,pin:=0,nr:=true,ys:=[] }
theorem Z2b:Sound Try.prog 52 (Zgh) :=
 Sound.shp (C:=Z7x) (fn:=Try.f52) (by kernel_rfl) (c:=bodyOf Try.f52) (by kernel_rfl) (by decide) (ctxOK mixed tbl_ok rfl ⟨Z2q,trivial⟩ trivial) (SumOK.of ⟨(Ybz (d:=.loop (loopOf 3 Try.f52)) (by kernel_rfl) Z5r),trivial⟩) (by kernel_rfl) Zc0 Ze9 rfl (by decide) (by decide) rfl (by decide) rfl Z2a (fun x=>by kernel_rfl)
abbrev Zbx:Shape:={ sl:=[(0,(.hole y0)),(1,(.fn 33 .nil .nil))],bl:=[],ts:=[y0],pin:=0 }
abbrev Ze6:Shape:={ sl:=sl_0,bl:=[],ts:=[.bool],pin:=0 }
def Z24 (x:(List Int)):Option (Bool) :=
 (Z2a x).bind fun r6 =>
 some (decide (r6 ≥ (0:Int)))
abbrev Zge:=Spec.shp Zbx Ze6 Z24
def Z7t:Ctx:={ tb:=mkTb T2.tbl,fx:=[(52,[33],Zgh)],sum:=[],nt:=9,pin:=0,nr:=true,ys:=[] }
theorem Z25:Sound Try.prog 32 (Zge) :=
 Sound.shp (C:=Z7t) (fn:=Try.f32) (by kernel_rfl) (c:=bodyOf Try.f32) (by kernel_rfl) (by decide) (ctxOK mixed tbl_ok rfl ⟨Z2b,trivial⟩ trivial) (SumOK.of trivial) (by kernel_rfl) Zbx Ze6 rfl (by decide) (by decide) rfl (by decide) rfl Z24 (fun x=>by kernel_rfl)
abbrev Zcs:Shape:={ sl:=[],bl:=[],ts:=[],pin:=0 }
abbrev Zf1:Shape:={ sl:=[(0,(.mp 0))],bl:=[.mp (.int .i64) (.int .i64)],ts:=[(.slice y4)],pin:=0 }
def Z3w (x:Unit):Option (List (Int × Int)) :=
 some (@mput (Int) (Int) (Ty.beq (.int .i64)) (15:Int) (13:Int) (@mput (Int) (Int) (Ty.beq (.int .i64)) (11:Int) (10:Int) (@mput (Int) (Int) (Ty.beq (.int .i64)) (9:Int) (8:Int) (@mput (Int) (Int) (Ty.beq (.int .i64)) (6:Int) (4:Int) (@mput (Int) (Int) (Ty.beq (.int .i64)) (5:Int) (4:Int) (@mput (Int) (Int) (Ty.beq (.int .i64)) (3:Int) (2:Int) ([]:List (Int × Int))))))))
abbrev Zh9:=Spec.shp Zcs Zf1 Z3w
def Z8v:Ctx:={ tb:=mkTb T2.tbl,fx:=[],sum:=[],nt:=3,pin:=0,nr:=true,ys:=[] }
theorem Z3x:Sound Try.prog 35 (Zh9) :=
 Sound.shp (C:=Z8v) (fn:=Try.f35) (by kernel_rfl) (c:=bodyOf Try.f35) (by kernel_rfl) (by decide) (ctxOK mixed tbl_ok rfl trivial trivial) (SumOK.of trivial) (by kernel_rfl) Zcs Zf1 rfl (by decide) (by decide) rfl (by decide) rfl Z3w (fun x=>by kernel_rfl)
abbrev Zch:Shape:={ sl:=[(0,(.ptr 0 []))],bl:=[.var (.pr (.hole y0) (.pr (.mp 1) (.pr (.hole y1) (.pr (.hole (.int .i64)) (.pr (.mp 2) (.pr (.mp 3) .nilm)))))),.mp y4 (.int .i64),.mp (.int .i64) (.int .i64),.mp (.int .i64) (.int .i64)],ts:=[y0,y1,(.int .i64),(.slice y6),(.slice y4),(.slice y4)],pin:=0 }
abbrev Zeq:Shape:={ sl:=[(0,(.mp 4))],bl:=[.var (.pr (.hole y0) (.pr (.mp 1) (.pr (.hole y1) (.pr (.hole (.int .i64)) (.pr (.mp 2) (.pr (.mp 3) .nilm)))))),.mp y4 (.int .i64),.mp (.int .i64) (.int .i64),.mp (.int .i64) (.int .i64),.fm [1,3,5,6,7,11,12,14,15] (.cons (.fn 55 .nil (.cons (.ptr 5 []) .nil)) (.cons (.fn 56 .nil (.cons (.ptr 5 []) .nil)) (.cons (.fn 58 .nil (.cons (.ptr 5 []) .nil)) (.cons (.fn 59 .nil (.cons (.ptr 5 []) .nil)) (.cons (.fn 60 .nil (.cons (.ptr 5 []) .nil)) (.cons (.fn 61 .nil (.cons (.ptr 6 []) .nil)) (.cons (.fn 62 .nil (.cons (.ptr 6 []) .nil)) (.cons (.fn 63 .nil (.cons (.ptr 5 []) .nil)) (.cons (.fn 64 .nil (.cons (.ptr 5 []) .nil)) .nil))))))))),.var (.ptr 0 []),.var (.fn 53 .nil (.cons (.ptr 5 []) .nil))],ts:=[y0,y1,(.int .i64),(.slice y6),(.slice y4),(.slice y4)],pin:=4 }
def Z39 (x:(List Int × List Int × Int × List (T4) × List (Int × Int) × List (Int × Int))):Option (List Int × List Int × Int × List (T4) × List (Int × Int) × List (Int × Int)) :=
 some (x.1,x.2.1,x.2.2.1,x.2.2.2.1,x.2.2.2.2.1,x.2.2.2.2.2)
abbrev Zgy:=Spec.shp Zch Zeq Z39
def Z8k:Ctx:={ tb:=mkTb T2.tbl,fx:=[],sum:=[],nt:=16,pin:=4,nr:=true,ys:=[] }
theorem Z3v:Sound Try.prog 36 (Zgy) :=
 Sound.shp (C:=Z8k) (fn:=Try.f36) (by kernel_rfl) (c:=bodyOf Try.f36) (by kernel_rfl) (by decide) (ctxOK mixed tbl_ok rfl trivial trivial) (SumOK.of trivial) (by kernel_rfl) Zch Zeq rfl (by decide) (by decide) rfl (by decide) rfl Z39 (fun x=>by kernel_rfl)
abbrev Zcb:Shape:={ sl:=sl_2,bl:=bl_0,ts:=ts_1,pin:=0 }
abbrev Zek:Shape:={ sl:=sl_0,bl:=bl_0,ts:=ts_2,pin:=7 }
def Z2w (x:T18):Option T12 :=
 bif (inb x.2.1.1 8) then
 bif (decide ((getAt (0:Int) x.2.2.2.1 (toN x.2.1.1)) > (0:Int))) then
 some (false,x.2.2.1,x.2.2.2.1,x.2.2.2.2.1,x.2.2.2.2.2.1,x.2.2.2.2.2.2.1,x.2.2.2.2.2.2.2)
 else
 bif (x.2.1.2.2.1 != (0:Int)) then
 some (false,x.2.2.1,x.2.2.2.1,x.2.2.2.2.1,x.2.2.2.2.2.1,x.2.2.2.2.2.2.1,x.2.2.2.2.2.2.2)
 else
 bif (x.2.1.2.2.2.1 != (0:Int)) then
 some (false,x.2.2.1,x.2.2.2.1,x.2.2.2.2.1,x.2.2.2.2.2.1,x.2.2.2.2.2.2.1,x.2.2.2.2.2.2.2)
 else
 bif (x.2.1.1 == (0:Int)) then
 some ((x.2.1.2.2.2.2 == (Int.negSucc 0)),x.2.2.1,x.2.2.2.1,x.2.2.2.2.1,x.2.2.2.2.2.1,x.2.2.2.2.2.2.1,x.2.2.2.2.2.2.2)
 else
 bif (x.2.1.2.2.2.2 != (Int.negSucc 0)) then
 bif (inb x.2.1.2.2.2.2 (List.length x.1)) then
 bif ((getAt ((0:Int),(0:Int),(0:Int),(0:Int),(0:Int)) x.1 (toN x.2.1.2.2.2.2)).2.1 == (1:Int)) then
 bif (inb x.2.1.2.2.2.2 (List.length x.1)) then
 some (((getAt ((0:Int),(0:Int),(0:Int),(0:Int),(0:Int)) x.1 (toN x.2.1.2.2.2.2)).2.2.1 == x.2.1.1),x.2.2.1,x.2.2.2.1,x.2.2.2.2.1,x.2.2.2.2.2.1,x.2.2.2.2.2.2.1,x.2.2.2.2.2.2.2)
 else
 none
 else
 some (false,x.2.2.1,x.2.2.2.1,x.2.2.2.2.1,x.2.2.2.2.2.1,x.2.2.2.2.2.2.1,x.2.2.2.2.2.2.2)
 else
 none
 else
 some (false,x.2.2.1,x.2.2.2.1,x.2.2.2.2.1,x.2.2.2.2.2.1,x.2.2.2.2.2.2.1,x.2.2.2.2.2.2.2)
 else
 none
abbrev Zgs:=Spec.shp Zcb Zek Z2w
def Z8e:Ctx:={ tb:=mkTb T2.tbl,fx:=[],sum:=[],nt:=54,pin:=7,nr:=true,ys:=[] }
theorem Z2x:Sound Try.prog 86 (Zgs) :=
 Sound.shp (C:=Z8e) (fn:=Try.f86) (by kernel_rfl) (c:=bodyOf Try.f86) (by kernel_rfl) (by decide) (ctxOK mixed tbl_ok rfl trivial trivial) (SumOK.of trivial) (by kernel_rfl) Zcb Zek rfl (by decide) (by decide) rfl (by decide) rfl Z2w (fun x=>by kernel_rfl)
abbrev Zce:Shape:={ sl:=[(0,(.ptr 0 [])),(1,(.hole (.int .i64)))],bl:=bl_0,ts:=ts_3,pin:=0 }
abbrev Zen:Shape:={ sl:=sl_1,bl:=bl_0,ts:=ts_3,pin:=7 }
def Z33 (x:T11):Option T11 :=
 (Z2s (x.1,(2:Int),(7:Int))).bind fun r15 =>
 bif r15 then
 some ((((List.length x.2.1):Nat):Int),x.2.1,x.2.2.1,x.2.2.2.1,x.2.2.2.2.1,x.2.2.2.2.2.1,x.2.2.2.2.2.2)
 else
 (Z2s (x.1,(10:Int),(15:Int))).bind fun r16 =>
 bif r16 then
 some ((2:Int),x.2.1,x.2.2.1,x.2.2.2.1,x.2.2.2.2.1,x.2.2.2.2.2.1,x.2.2.2.2.2.2)
 else
 (Z2s (x.1,(8:Int),(17:Int))).bind fun r17 =>
 bif r17 then
 some ((4:Int),x.2.1,x.2.2.1,x.2.2.2.1,x.2.2.2.2.1,x.2.2.2.2.2.1,x.2.2.2.2.2.2)
 else
 some ((1:Int),x.2.1,x.2.2.1,x.2.2.2.1,x.2.2.2.2.1,x.2.2.2.2.2.1,x.2.2.2.2.2.2)
abbrev Zgv:=Spec.shp Zce Zen Z33
def Z8h:Ctx:={ tb:=mkTb T2.tbl,fx:=[(34,[],Zgq)],sum:=[],nt:=19,pin:=7,nr:=true,ys:=[] }
theorem Z34:Sound Try.prog 87 (Zgv) :=
 Sound.shp (C:=Z8h) (fn:=Try.f87) (by kernel_rfl) (c:=bodyOf Try.f87) (by kernel_rfl) (by decide) (ctxOK mixed tbl_ok rfl ⟨Z2t,trivial⟩ trivial) (SumOK.of trivial) (by kernel_rfl) Zce Zen rfl (by decide) (by decide) rfl (by decide) rfl Z33 (fun x=>by kernel_rfl)
abbrev Zca:Shape:={ sl:=sl_2,bl:=bl_0,ts:=ts_1,pin:=0 }
abbrev Zej:Shape:={ sl:=sl_0,bl:=bl_0,ts:=ts_2,pin:=7 }
def Z2u (x:T18):Option T12 :=
 bif (Bool.not (@mhas (Int) (Int) (Ty.beq (.int .i64)) x.2.1.2.1 x.2.2.2.2.2.2.2)) then
 some ((x.2.1.2.2.2.2 == (Int.negSucc 0)),x.2.2.1,x.2.2.2.1,x.2.2.2.2.1,x.2.2.2.2.2.1,x.2.2.2.2.2.2.1,x.2.2.2.2.2.2.2)
 else
 bif (x.2.1.2.2.2.2 == (Int.negSucc 0)) then
 some (false,x.2.2.1,x.2.2.2.1,x.2.2.2.2.1,x.2.2.2.2.2.1,x.2.2.2.2.2.2.1,x.2.2.2.2.2.2.2)
 else
 bif (inb x.2.1.1 8) then
 bif (x.2.1.2.2.2.2 != (IntKind.wrap .i64 ((getAt (0:Int) x.2.2.2.1 (toN x.2.1.1)) - (1:Int)))) then
 some (false,x.2.2.1,x.2.2.2.1,x.2.2.2.2.1,x.2.2.2.2.2.1,x.2.2.2.2.2.2.1,x.2.2.2.2.2.2.2)
 else
 bif (inb x.2.1.2.2.2.2 (List.length x.1)) then
 bif ((getAt ((0:Int),(0:Int),(0:Int),(0:Int),(0:Int)) x.1 (toN x.2.1.2.2.2.2)).2.1 == (@mlook (Int) (Int) (Ty.beq (.int .i64)) (Ty.zero (.int .i64)) x.2.1.2.1 x.2.2.2.2.2.2.2)) then
 bif ((getAt ((0:Int),(0:Int),(0:Int),(0:Int),(0:Int)) x.1 (toN x.2.1.2.2.2.2)).2.2.1 == x.2.1.2.2.1) then
 some (true,x.2.2.1,x.2.2.2.1,x.2.2.2.2.1,x.2.2.2.2.2.1,x.2.2.2.2.2.2.1,x.2.2.2.2.2.2.2)
 else
 bif ((getAt ((0:Int),(0:Int),(0:Int),(0:Int),(0:Int)) x.1 (toN x.2.1.2.2.2.2)).2.1 == (8:Int)) then
 some ((decide (x.2.1.2.1 ≤ (6:Int))),x.2.2.1,x.2.2.2.1,x.2.2.2.2.1,x.2.2.2.2.2.1,x.2.2.2.2.2.2.1,x.2.2.2.2.2.2.2)
 else
 some (false,x.2.2.1,x.2.2.2.1,x.2.2.2.2.1,x.2.2.2.2.2.1,x.2.2.2.2.2.2.1,x.2.2.2.2.2.2.2)
 else
 bif ((getAt ((0:Int),(0:Int),(0:Int),(0:Int),(0:Int)) x.1 (toN x.2.1.2.2.2.2)).2.1 == (8:Int)) then
 some ((decide (x.2.1.2.1 ≤ (6:Int))),x.2.2.1,x.2.2.2.1,x.2.2.2.2.1,x.2.2.2.2.2.1,x.2.2.2.2.2.2.1,x.2.2.2.2.2.2.2)
 else
 some (false,x.2.2.1,x.2.2.2.1,x.2.2.2.2.1,x.2.2.2.2.2.1,x.2.2.2.2.2.2.1,x.2.2.2.2.2.2.2)
 else
 none
 else
 none
abbrev Zgr:=Spec.shp Zca Zej Z2u
def Z8d:Ctx:={ tb:=mkTb T2.tbl,fx:=[],sum:=[],nt:=67,pin:=7,nr:=true,ys:=[] }
theorem Z2v:Sound Try.prog 88 (Zgr) :=
 Sound.shp (C:=Z8d) (fn:=Try.f88) (by kernel_rfl) (c:=bodyOf Try.f88) (by kernel_rfl) (by decide) (ctxOK mixed tbl_ok rfl trivial trivial) (SumOK.of trivial) (by kernel_rfl) Zca Zej rfl (by decide) (by decide) rfl (by decide) rfl Z2u (fun x=>by kernel_rfl)
abbrev Zck:Shape:={ sl:=sl_3,bl:=bl_1,ts:=ts_4,pin:=0 }
abbrev Zet:Shape:={ sl:=sl_0,bl:=bl_1,ts:=ts_2,pin:=7 }
def Z3e (x:T17):Option T12 :=
 some ((x.1.2.2.1 == x.2.2.2.1),x.2.1,x.2.2.1,x.2.2.2.1,x.2.2.2.2.1,x.2.2.2.2.2.1,x.2.2.2.2.2.2)
abbrev Zh1:=Spec.shp Zck Zet Z3e
def Z8n:Ctx:={ tb:=mkTb T2.tbl,fx:=[],sum:=[],nt:=11,pin:=7,nr:=true,ys:=[] }
theorem Z3f:Sound Try.prog 55 (Zh1) :=
 Sound.shp (C:=Z8n) (fn:=Try.f55) (by kernel_rfl) (c:=bodyOf Try.f55) (by kernel_rfl) (by decide) (ctxOK mixed tbl_ok rfl trivial trivial) (SumOK.of trivial) (by kernel_rfl) Zck Zet rfl (by decide) (by decide) rfl (by decide) rfl Z3e (fun x=>by kernel_rfl)
theorem Z3g:Sound Try.prog 55 (Spec.shpR Zck Zet Z3e) :=
 Sound.shpR (fun x y h=>by have h:=Option.some.inj h; subst h; rfl) Z3f
abbrev Zcf:Shape:={ sl:=[(0,(.ptr 0 [])),(1,(.hole y12))],bl:=bl_0,ts:=ts_4,pin:=0 }
abbrev Zeo:Shape:={ sl:=sl_0,bl:=bl_0,ts:=ts_2,pin:=7 }
def Z35 (x:T17):Option T12 :=
 bif (inb x.1.2.2.1 (List.length x.2.1)) then
 some ((decide ((getAt (0:Int) x.2.1 (toN x.1.2.2.1)) ≥ (0:Int))),x.2.1,x.2.2.1,x.2.2.2.1,x.2.2.2.2.1,x.2.2.2.2.2.1,x.2.2.2.2.2.2)
 else
 none
abbrev Zgw:=Spec.shp Zcf Zeo Z35
def Z8i:Ctx:={ tb:=mkTb T2.tbl,fx:=[],sum:=[],nt:=14,pin:=7,nr:=true,ys:=[] }
theorem Z36:Sound Try.prog 57 (Zgw) :=
 Sound.shp (C:=Z8i) (fn:=Try.f57) (by kernel_rfl) (c:=bodyOf Try.f57) (by kernel_rfl) (by decide) (ctxOK mixed tbl_ok rfl trivial trivial) (SumOK.of trivial) (by kernel_rfl) Zcf Zeo rfl (by decide) (by decide) rfl (by decide) rfl Z35 (fun x=>by kernel_rfl)
abbrev Zcd:Shape:={ sl:=sl_4,bl:=bl_0,ts:=[(.int .i64),y12,y0,y1,(.int .i64),(.slice y6),(.slice y4),(.slice y4)],pin:=0 }
abbrev Zem:Shape:={ sl:=sl_1,bl:=bl_0,ts:=ts_3,pin:=7 }
def Z30 (x:(Int × T9 × List Int × List Int × Int × List (T4) × List (Int × Int) × List (Int × Int))):Option T11 :=
 some ((@mlook (Int × Int) (Int) (Ty.beq y4) (Ty.zero (.int .i64)) (x.1,x.2.1.2.2.1) x.2.2.2.2.2.1),x.2.2.1,x.2.2.2.1,x.2.2.2.2.1,x.2.2.2.2.2.1,x.2.2.2.2.2.2.1,x.2.2.2.2.2.2.2)
abbrev Zgu:=Spec.shp Zcd Zem Z30
def Z8g:Ctx:={ tb:=mkTb T2.tbl,fx:=[],sum:=[],nt:=16,pin:=7,nr:=true,ys:=[] }
theorem Z31:Sound Try.prog 54 (Zgu) :=
 Sound.shp (C:=Z8g) (fn:=Try.f54) (by kernel_rfl) (c:=bodyOf Try.f54) (by kernel_rfl) (by decide) (ctxOK mixed tbl_ok rfl trivial trivial) (SumOK.of trivial) (by kernel_rfl) Zcd Zem rfl (by decide) (by decide) rfl (by decide) rfl Z30 (fun x=>by kernel_rfl)
theorem Z32:Sound Try.prog 54 (Spec.shpR Zcd Zem Z30) :=
 Sound.shpR (fun x y h=>by have h:=Option.some.inj h; subst h; rfl) Z31
abbrev Zcl:Shape:={ sl:=sl_3,bl:=bl_1,ts:=ts_4,pin:=0 }
abbrev Zeu:Shape:={ sl:=sl_0,bl:=bl_1,ts:=ts_2,pin:=7 }
def Z3h (x:T17):Option T12 :=
 (Z35 (x.1,x.2.1,x.2.2.1,x.2.2.2.1,x.2.2.2.2.1,x.2.2.2.2.2.1,x.2.2.2.2.2.2)).bind fun r18 =>
 bif r18.1 then
 (Z30 ((7:Int),x.1,r18.2.1,r18.2.2.1,r18.2.2.2.1,r18.2.2.2.2.1,r18.2.2.2.2.2.1,r18.2.2.2.2.2.2)).bind fun r19 =>
 bif (r19.1 == (0:Int)) then
 (Z30 ((3:Int),x.1,r18.2.1,r18.2.2.1,r18.2.2.2.1,r18.2.2.2.2.1,r18.2.2.2.2.2.1,r18.2.2.2.2.2.2)).bind fun r20 =>
 bif (x.1.2.2.2.1 == r20.1) then
 (Z30 ((5:Int),x.1,r18.2.1,r18.2.2.1,r18.2.2.2.1,r18.2.2.2.2.1,r18.2.2.2.2.2.1,r18.2.2.2.2.2.2)).bind fun r21 =>
 bif (inb x.1.2.2.1 (List.length r18.2.1)) then
 some ((decide (x.1.2.2.2.1 ≤ (IntKind.wrap .i64 (r21.1+(getAt (0:Int) r18.2.1 (toN x.1.2.2.1)))))),r18.2.1,r18.2.2.1,r18.2.2.2.1,r18.2.2.2.2.1,r18.2.2.2.2.2.1,r18.2.2.2.2.2.2)
 else
 none
 else
 some (false,r18.2.1,r18.2.2.1,r18.2.2.2.1,r18.2.2.2.2.1,r18.2.2.2.2.2.1,r18.2.2.2.2.2.2)
 else
 some (false,r18.2.1,r18.2.2.1,r18.2.2.2.1,r18.2.2.2.2.1,r18.2.2.2.2.2.1,r18.2.2.2.2.2.2)
 else
 some (false,r18.2.1,r18.2.2.1,r18.2.2.2.1,r18.2.2.2.2.1,r18.2.2.2.2.2.1,r18.2.2.2.2.2.2)
abbrev Zh2:=Spec.shp Zcl Zeu Z3h
def Z8o:Ctx:={ tb:=mkTb T2.tbl,fx:=[(57,[],Spec.thin (Zgw)),(54,[],Spec.shpR Zcd Zem Z30)],sum:=[],nt:=38,pin:=7,nr:=true,ys:=[] }
theorem Z3i:Sound Try.prog 56 (Zh2) :=
 Sound.shp (C:=Z8o) (fn:=Try.f56) (by kernel_rfl) (c:=bodyOf Try.f56) (by kernel_rfl) (by decide) (ctxOK mixed tbl_ok rfl ⟨Z36.thin,Z32,trivial⟩ trivial) (SumOK.of trivial) (by kernel_rfl) Zcl Zeu rfl (by decide) (by decide) rfl (by decide) rfl Z3h (fun x=>by kernel_rfl)
abbrev Zcm:Shape:={ sl:=sl_3,bl:=bl_1,ts:=ts_4,pin:=0 }
abbrev Zev:Shape:={ sl:=sl_0,bl:=bl_1,ts:=ts_2,pin:=7 }
def Z3j (x:T17):Option T12 :=
 (Z35 (x.1,x.2.1,x.2.2.1,x.2.2.2.1,x.2.2.2.2.1,x.2.2.2.2.2.1,x.2.2.2.2.2.2)).bind fun r18 =>
 bif r18.1 then
 (Z30 ((5:Int),x.1,r18.2.1,r18.2.2.1,r18.2.2.2.1,r18.2.2.2.2.1,r18.2.2.2.2.2.1,r18.2.2.2.2.2.2)).bind fun r19 =>
 bif (x.1.2.2.2.1 == r19.1) then
 (Z30 ((3:Int),x.1,r18.2.1,r18.2.2.1,r18.2.2.2.1,r18.2.2.2.2.1,r18.2.2.2.2.2.1,r18.2.2.2.2.2.2)).bind fun r20 =>
 some ((decide (x.1.2.2.2.1 ≤ r20.1)),r18.2.1,r18.2.2.1,r18.2.2.2.1,r18.2.2.2.2.1,r18.2.2.2.2.2.1,r18.2.2.2.2.2.2)
 else
 some (false,r18.2.1,r18.2.2.1,r18.2.2.2.1,r18.2.2.2.2.1,r18.2.2.2.2.2.1,r18.2.2.2.2.2.2)
 else
 some (false,r18.2.1,r18.2.2.1,r18.2.2.2.1,r18.2.2.2.2.1,r18.2.2.2.2.2.1,r18.2.2.2.2.2.2)
abbrev Zh3:=Spec.shp Zcm Zev Z3j
def Z8p:Ctx:={ tb:=mkTb T2.tbl,fx:=[(57,[],Spec.thin (Zgw)),(54,[],Spec.shpR Zcd Zem Z30)],sum:=[],nt:=23,pin:=7,nr:=true,ys:=[] }
theorem Z3k:Sound Try.prog 58 (Zh3) :=
 Sound.shp (C:=Z8p) (fn:=Try.f58) (by kernel_rfl) (c:=bodyOf Try.f58) (by kernel_rfl) (by decide) (ctxOK mixed tbl_ok rfl ⟨Z36.thin,Z32,trivial⟩ trivial) (SumOK.of trivial) (by kernel_rfl) Zcm Zev rfl (by decide) (by decide) rfl (by decide) rfl Z3j (fun x=>by kernel_rfl)
abbrev Zcn:Shape:={ sl:=sl_3,bl:=bl_1,ts:=ts_4,pin:=0 }
abbrev Zew:Shape:={ sl:=sl_0,bl:=bl_1,ts:=ts_2,pin:=7 }
def Z3l (x:T17):Option T12 :=
 (Z30 ((7:Int),x.1,x.2.1,x.2.2.1,x.2.2.2.1,x.2.2.2.2.1,x.2.2.2.2.2.1,x.2.2.2.2.2.2)).bind fun r18 =>
 bif (decide (r18.1 > (0:Int))) then
 (Z30 ((5:Int),x.1,x.2.1,x.2.2.1,x.2.2.2.1,x.2.2.2.2.1,x.2.2.2.2.2.1,x.2.2.2.2.2.2)).bind fun r19 =>
 (Z30 ((3:Int),x.1,x.2.1,x.2.2.1,x.2.2.2.1,x.2.2.2.2.1,x.2.2.2.2.2.1,x.2.2.2.2.2.2)).bind fun r20 =>
 some ((r19.1 == r20.1),x.2.1,x.2.2.1,x.2.2.2.1,x.2.2.2.2.1,x.2.2.2.2.2.1,x.2.2.2.2.2.2)
 else
 some (false,x.2.1,x.2.2.1,x.2.2.2.1,x.2.2.2.2.1,x.2.2.2.2.2.1,x.2.2.2.2.2.2)
abbrev Zh4:=Spec.shp Zcn Zew Z3l
def Z8q:Ctx:={ tb:=mkTb T2.tbl,fx:=[(54,[],Spec.shpR Zcd Zem Z30)],sum:=[],nt:=17,pin:=7,nr:=true,ys:=[] }
theorem Z3m:Sound Try.prog 59 (Zh4) :=
 Sound.shp (C:=Z8q) (fn:=Try.f59) (by kernel_rfl) (c:=bodyOf Try.f59) (by kernel_rfl) (by decide) (ctxOK mixed tbl_ok rfl ⟨Z32,trivial⟩ trivial) (SumOK.of trivial) (by kernel_rfl) Zcn Zew rfl (by decide) (by decide) rfl (by decide) rfl Z3l (fun x=>by kernel_rfl)
abbrev Zco:Shape:={ sl:=sl_3,bl:=bl_1,ts:=ts_4,pin:=0 }
abbrev Zex:Shape:={ sl:=sl_0,bl:=bl_1,ts:=ts_2,pin:=7 }
def Z3n (x:T17):Option T12 :=
 (Z35 (x.1,x.2.1,x.2.2.1,x.2.2.2.1,x.2.2.2.2.1,x.2.2.2.2.2.1,x.2.2.2.2.2.2)).bind fun r18 =>
 bif r18.1 then
 (Z30 ((7:Int),x.1,r18.2.1,r18.2.2.1,r18.2.2.2.1,r18.2.2.2.2.1,r18.2.2.2.2.2.1,r18.2.2.2.2.2.2)).bind fun r19 =>
 some ((r19.1 == (0:Int)),r18.2.1,r18.2.2.1,r18.2.2.2.1,r18.2.2.2.2.1,r18.2.2.2.2.2.1,r18.2.2.2.2.2.2)
 else
 some (false,r18.2.1,r18.2.2.1,r18.2.2.2.1,r18.2.2.2.2.1,r18.2.2.2.2.2.1,r18.2.2.2.2.2.2)
abbrev Zh5:=Spec.shp Zco Zex Z3n
def Z8r:Ctx:={ tb:=mkTb T2.tbl,fx:=[(57,[],Spec.thin (Zgw)),(54,[],Spec.shpR Zcd Zem Z30)],sum:=[],nt:=13,pin:=7,nr:=true,ys:=[] }
theorem Z3o:Sound Try.prog 60 (Zh5) :=
 Sound.shp (C:=Z8r) (fn:=Try.f60) (by kernel_rfl) (c:=bodyOf Try.f60) (by kernel_rfl) (by decide) (ctxOK mixed tbl_ok rfl ⟨Z36.thin,Z32,trivial⟩ trivial) (SumOK.of trivial) (by kernel_rfl) Zco Zex rfl (by decide) (by decide) rfl (by decide) rfl Z3n (fun x=>by kernel_rfl)
abbrev Zci:Shape:={ sl:=sl_3,bl:=bl_1,ts:=ts_4,pin:=0 }
abbrev Zer:Shape:={ sl:=sl_1,bl:=bl_1,ts:=ts_3,pin:=7 }
def Z3a (x:T17):Option T11 :=
 (Z30 ((11:Int),x.1,x.2.1,x.2.2.1,x.2.2.2.1,x.2.2.2.2.1,x.2.2.2.2.2.1,x.2.2.2.2.2.2)).bind fun r19 =>
 (Z30 ((12:Int),x.1,x.2.1,x.2.2.1,x.2.2.2.1,x.2.2.2.2.1,x.2.2.2.2.2.1,x.2.2.2.2.2.2)).bind fun r20 =>
 some ((IntKind.wrap .i64 (r19.1 - r20.1)),x.2.1,x.2.2.1,x.2.2.2.1,x.2.2.2.2.1,x.2.2.2.2.2.1,x.2.2.2.2.2.2)
abbrev Zgz:=Spec.shp Zci Zer Z3a
def Z8l:Ctx:={ tb:=mkTb T2.tbl,fx:=[(54,[],Spec.shpR Zcd Zem Z30)],sum:=[],nt:=11,pin:=7,nr:=true,ys:=[] }
theorem Z3d:Sound Try.prog 53 (Zgz) :=
 Sound.shp (C:=Z8l) (fn:=Try.f53) (by kernel_rfl) (c:=bodyOf Try.f53) (by kernel_rfl) (by decide) (ctxOK mixed tbl_ok rfl ⟨Z32,trivial⟩ trivial) (SumOK.of trivial) (by kernel_rfl) Zci Zer rfl (by decide) (by decide) rfl (by decide) rfl Z3a (fun x=>by kernel_rfl)
abbrev Zcp:Shape:={ sl:=sl_3,bl:=bl_2,ts:=ts_4,pin:=0 }
abbrev Zey:Shape:={ sl:=sl_0,bl:=bl_2,ts:=ts_2,pin:=7 }
def Z3p (x:T17):Option T12 :=
 (Z3a (x.1,x.2.1,x.2.2.1,x.2.2.2.1,x.2.2.2.2.1,x.2.2.2.2.2.1,x.2.2.2.2.2.2)).bind fun r18 =>
 some ((r18.1 == (0:Int)),r18.2.1,r18.2.2.1,r18.2.2.2.1,r18.2.2.2.2.1,r18.2.2.2.2.2.1,r18.2.2.2.2.2.2)
abbrev Zh6:=Spec.shp Zcp Zey Z3p
def Z8s:Ctx:={ tb:=mkTb T2.tbl,fx:=[(53,[],Spec.thin (Zgz))],sum:=[],nt:=8,pin:=7,nr:=true,ys:=[] }
theorem Z3q:Sound Try.prog 61 (Zh6) :=
 Sound.shp (C:=Z8s) (fn:=Try.f61) (by kernel_rfl) (c:=bodyOf Try.f61) (by kernel_rfl) (by decide) (ctxOK mixed tbl_ok rfl ⟨Z3d.thin,trivial⟩ trivial) (SumOK.of trivial) (by kernel_rfl) Zcp Zey rfl (by decide) (by decide) rfl (by decide) rfl Z3p (fun x=>by kernel_rfl)
abbrev Zcq:Shape:={ sl:=sl_3,bl:=bl_2,ts:=ts_4,pin:=0 }
abbrev Zez:Shape:={ sl:=sl_0,bl:=bl_2,ts:=ts_2,pin:=7 }
def Z3r (x:T17):Option T12 :=
 (Z3a (x.1,x.2.1,x.2.2.1,x.2.2.2.1,x.2.2.2.2.1,x.2.2.2.2.2.1,x.2.2.2.2.2.2)).bind fun r18 =>
 some ((r18.1 == (1:Int)),r18.2.1,r18.2.2.1,r18.2.2.2.1,r18.2.2.2.2.1,r18.2.2.2.2.2.1,r18.2.2.2.2.2.2)
abbrev Zh7:=Spec.shp Zcq Zez Z3r
def Z8t:Ctx:={ tb:=mkTb T2.tbl,fx:=[(53,[],Spec.thin (Zgz))],sum:=[],nt:=8,pin:=7,nr:=true,ys:=[] }
theorem Z3s:Sound Try.prog 62 (Zh7) :=
 Sound.shp (C:=Z8t) (fn:=Try.f62) (by kernel_rfl) (c:=bodyOf Try.f62) (by kernel_rfl) (by decide) (ctxOK mixed tbl_ok rfl ⟨Z3d.thin,trivial⟩ trivial) (SumOK.of trivial) (by kernel_rfl) Zcq Zez rfl (by decide) (by decide) rfl (by decide) rfl Z3r (fun x=>by kernel_rfl)
abbrev Zcr:Shape:={ sl:=sl_3,bl:=bl_1,ts:=ts_4,pin:=0 }
abbrev Zf0:Shape:={ sl:=sl_0,bl:=bl_1,ts:=ts_2,pin:=7 }
def Z3t (x:T17):Option T12 :=
 (Z30 ((14:Int),x.1,x.2.1,x.2.2.1,x.2.2.2.1,x.2.2.2.2.1,x.2.2.2.2.2.1,x.2.2.2.2.2.2)).bind fun r18 =>
 bif (r18.1 == (0:Int)) then
 some (((@mlook (Int) (Int) (Ty.beq (.int .i64)) (Ty.zero (.int .i64)) x.1.2.2.1 x.2.2.2.2.2.1) == (IntKind.wrap .i64 (x.1.1+(1:Int)))),x.2.1,x.2.2.1,x.2.2.2.1,x.2.2.2.2.1,x.2.2.2.2.2.1,x.2.2.2.2.2.2)
 else
 some (false,x.2.1,x.2.2.1,x.2.2.2.1,x.2.2.2.2.1,x.2.2.2.2.2.1,x.2.2.2.2.2.2)
abbrev Zh8:=Spec.shp Zcr Zf0 Z3t
def Z8u:Ctx:={ tb:=mkTb T2.tbl,fx:=[(54,[],Spec.shpR Zcd Zem Z30)],sum:=[],nt:=21,pin:=7,nr:=true,ys:=[] }
theorem Z3u:Sound Try.prog 63 (Zh8) :=
 Sound.shp (C:=Z8u) (fn:=Try.f63) (by kernel_rfl) (c:=bodyOf Try.f63) (by kernel_rfl) (by decide) (ctxOK mixed tbl_ok rfl ⟨Z32,trivial⟩ trivial) (SumOK.of trivial) (by kernel_rfl) Zcr Zf0 rfl (by decide) (by decide) rfl (by decide) rfl Z3t (fun x=>by kernel_rfl)
abbrev Zcj:Shape:={ sl:=sl_3,bl:=bl_1,ts:=ts_4,pin:=0 }
abbrev Zes:Shape:={ sl:=sl_0,bl:=bl_1,ts:=ts_2,pin:=7 }
def Z3b (x:T17):Option T12 :=
 (Z30 ((14:Int),x.1,x.2.1,x.2.2.1,x.2.2.2.1,x.2.2.2.2.1,x.2.2.2.2.2.1,x.2.2.2.2.2.2)).bind fun r18 =>
 some ((decide (r18.1 > (0:Int))),x.2.1,x.2.2.1,x.2.2.2.1,x.2.2.2.2.1,x.2.2.2.2.2.1,x.2.2.2.2.2.2)
abbrev Zh0:=Spec.shp Zcj Zes Z3b
def Z8m:Ctx:={ tb:=mkTb T2.tbl,fx:=[(54,[],Spec.shpR Zcd Zem Z30)],sum:=[],nt:=8,pin:=7,nr:=true,ys:=[] }
theorem Z3c:Sound Try.prog 64 (Zh0) :=
 Sound.shp (C:=Z8m) (fn:=Try.f64) (by kernel_rfl) (c:=bodyOf Try.f64) (by kernel_rfl) (by decide) (ctxOK mixed tbl_ok rfl ⟨Z32,trivial⟩ trivial) (SumOK.of trivial) (by kernel_rfl) Zcj Zes rfl (by decide) (by decide) rfl (by decide) rfl Z3b (fun x=>by kernel_rfl)
abbrev Zcg:Shape:={ sl:=sl_2,bl:=bl_0,ts:=ts_1,pin:=0 }
abbrev Zep:Shape:={ sl:=sl_0,bl:=bl_0,ts:=ts_2,pin:=7 }
def Z37 (x:T18):Option T12 :=
 (Z2s (x.2.1.1,(0:Int),(7:Int))).bind fun r11 =>
 bif (Bool.not r11) then
 some (false,x.2.2.1,x.2.2.2.1,x.2.2.2.2.1,x.2.2.2.2.2.1,x.2.2.2.2.2.2.1,x.2.2.2.2.2.2.2)
 else
 (Z2s (x.2.1.2.1,(0:Int),(17:Int))).bind fun r12 =>
 bif (Bool.not r12) then
 some (false,x.2.2.1,x.2.2.2.1,x.2.2.2.2.1,x.2.2.2.2.2.1,x.2.2.2.2.2.2.1,x.2.2.2.2.2.2.2)
 else
 bif (decide (x.2.1.2.2.2.1 < (0:Int))) then
 some (false,x.2.2.1,x.2.2.2.1,x.2.2.2.2.1,x.2.2.2.2.2.1,x.2.2.2.2.2.2.1,x.2.2.2.2.2.2.2)
 else
 (Z2s (x.2.1.2.2.2.2,(Int.negSucc 0),(IntKind.wrap .i64 ((((List.length x.1):Nat):Int) - (1:Int))))).bind fun r13 =>
 bif (Bool.not r13) then
 some (false,x.2.2.1,x.2.2.2.1,x.2.2.2.2.1,x.2.2.2.2.2.1,x.2.2.2.2.2.2.1,x.2.2.2.2.2.2.2)
 else
 bif (x.2.1.2.1 == (0:Int)) then
 (Z2w (x.1,x.2.1,x.2.2.1,x.2.2.2.1,x.2.2.2.2.1,x.2.2.2.2.2.1,x.2.2.2.2.2.2.1,x.2.2.2.2.2.2.2)).bind fun r14 =>
 some (r14.1,r14.2.1,r14.2.2.1,r14.2.2.2.1,r14.2.2.2.2.1,r14.2.2.2.2.2.1,r14.2.2.2.2.2.2)
 else
 bif (x.2.1.2.1 == (3:Int)) then
 bif (inb x.2.1.1 8) then
 bif ((getAt (0:Int) x.2.2.2.1 (toN x.2.1.1)) == (0:Int)) then
 some (false,x.2.2.1,x.2.2.2.1,x.2.2.2.2.1,x.2.2.2.2.2.1,x.2.2.2.2.2.2.1,x.2.2.2.2.2.2.2)
 else
 bif (x.2.1.2.1 != (1:Int)) then
 (Z33 (x.2.1.2.1,x.2.2.1,x.2.2.2.1,x.2.2.2.2.1,x.2.2.2.2.2.1,x.2.2.2.2.2.2.1,x.2.2.2.2.2.2.2)).bind fun r14 =>
 (Z2s (x.2.1.2.2.1,(0:Int),(IntKind.wrap .i64 (r14.1 - (1:Int))))).bind fun r15 =>
 bif (Bool.not r15) then
 some (false,r14.2.1,r14.2.2.1,r14.2.2.2.1,r14.2.2.2.2.1,r14.2.2.2.2.2.1,r14.2.2.2.2.2.2)
 else
 (Z2u (x.1,x.2.1,r14.2.1,r14.2.2.1,r14.2.2.2.1,r14.2.2.2.2.1,r14.2.2.2.2.2.1,r14.2.2.2.2.2.2)).bind fun r16 =>
 bif (Bool.not r16.1) then
 some (false,r16.2.1,r16.2.2.1,r16.2.2.2.1,r16.2.2.2.2.1,r16.2.2.2.2.2.1,r16.2.2.2.2.2.2)
 else
 bif (eqI x.2.1.2.1 (1:Int)) then
 (Z3e (x.2.1,r16.2.1,r16.2.2.1,r16.2.2.2.1,r16.2.2.2.2.1,r16.2.2.2.2.2.1,r16.2.2.2.2.2.2)).bind fun r17 =>
 some (r17.1,r16.2.1,r16.2.2.1,r16.2.2.2.1,r16.2.2.2.2.1,r16.2.2.2.2.2.1,r16.2.2.2.2.2.2)
 else
 bif (eqI x.2.1.2.1 (3:Int)) then
 (Z3h (x.2.1,r16.2.1,r16.2.2.1,r16.2.2.2.1,r16.2.2.2.2.1,r16.2.2.2.2.2.1,r16.2.2.2.2.2.2)).bind fun r17 =>
 some (r17.1,r17.2.1,r17.2.2.1,r17.2.2.2.1,r17.2.2.2.2.1,r17.2.2.2.2.2.1,r17.2.2.2.2.2.2)
 else
 bif (eqI x.2.1.2.1 (5:Int)) then
 (Z3j (x.2.1,r16.2.1,r16.2.2.1,r16.2.2.2.1,r16.2.2.2.2.1,r16.2.2.2.2.2.1,r16.2.2.2.2.2.2)).bind fun r17 =>
 some (r17.1,r17.2.1,r17.2.2.1,r17.2.2.2.1,r17.2.2.2.2.1,r17.2.2.2.2.2.1,r17.2.2.2.2.2.2)
 else
 bif (eqI x.2.1.2.1 (6:Int)) then
 (Z3l (x.2.1,r16.2.1,r16.2.2.1,r16.2.2.2.1,r16.2.2.2.2.1,r16.2.2.2.2.2.1,r16.2.2.2.2.2.2)).bind fun r17 =>
 some (r17.1,r17.2.1,r17.2.2.1,r17.2.2.2.1,r17.2.2.2.2.1,r17.2.2.2.2.2.1,r17.2.2.2.2.2.2)
 else
 bif (eqI x.2.1.2.1 (7:Int)) then
 (Z3n (x.2.1,r16.2.1,r16.2.2.1,r16.2.2.2.1,r16.2.2.2.2.1,r16.2.2.2.2.2.1,r16.2.2.2.2.2.2)).bind fun r17 =>
 some (r17.1,r17.2.1,r17.2.2.1,r17.2.2.2.1,r17.2.2.2.2.1,r17.2.2.2.2.2.1,r17.2.2.2.2.2.2)
 else
 bif (eqI x.2.1.2.1 (11:Int)) then
 (Z3p (x.2.1,r16.2.1,r16.2.2.1,r16.2.2.2.1,r16.2.2.2.2.1,r16.2.2.2.2.2.1,r16.2.2.2.2.2.2)).bind fun r17 =>
 some (r17.1,r17.2.1,r17.2.2.1,r17.2.2.2.1,r17.2.2.2.2.1,r17.2.2.2.2.2.1,r17.2.2.2.2.2.2)
 else
 bif (eqI x.2.1.2.1 (12:Int)) then
 (Z3r (x.2.1,r16.2.1,r16.2.2.1,r16.2.2.2.1,r16.2.2.2.2.1,r16.2.2.2.2.2.1,r16.2.2.2.2.2.2)).bind fun r17 =>
 some (r17.1,r17.2.1,r17.2.2.1,r17.2.2.2.1,r17.2.2.2.2.1,r17.2.2.2.2.2.1,r17.2.2.2.2.2.2)
 else
 bif (eqI x.2.1.2.1 (14:Int)) then
 (Z3t (x.2.1,r16.2.1,r16.2.2.1,r16.2.2.2.1,r16.2.2.2.2.1,r16.2.2.2.2.2.1,r16.2.2.2.2.2.2)).bind fun r17 =>
 some (r17.1,r17.2.1,r17.2.2.1,r17.2.2.2.1,r17.2.2.2.2.1,r17.2.2.2.2.2.1,r17.2.2.2.2.2.2)
 else
 bif (eqI x.2.1.2.1 (15:Int)) then
 (Z3b (x.2.1,r16.2.1,r16.2.2.1,r16.2.2.2.1,r16.2.2.2.2.1,r16.2.2.2.2.2.1,r16.2.2.2.2.2.2)).bind fun r17 =>
 some (r17.1,r17.2.1,r17.2.2.1,r17.2.2.2.1,r17.2.2.2.2.1,r17.2.2.2.2.2.1,r17.2.2.2.2.2.2)
 else
 some (true,r16.2.1,r16.2.2.1,r16.2.2.2.1,r16.2.2.2.2.1,r16.2.2.2.2.2.1,r16.2.2.2.2.2.2)
 else
 (Z2u (x.1,x.2.1,x.2.2.1,x.2.2.2.1,x.2.2.2.2.1,x.2.2.2.2.2.1,x.2.2.2.2.2.2.1,x.2.2.2.2.2.2.2)).bind fun r14 =>
 bif (Bool.not r14.1) then
 some (false,r14.2.1,r14.2.2.1,r14.2.2.2.1,r14.2.2.2.2.1,r14.2.2.2.2.2.1,r14.2.2.2.2.2.2)
 else
 bif (eqI x.2.1.2.1 (1:Int)) then
 (Z3e (x.2.1,r14.2.1,r14.2.2.1,r14.2.2.2.1,r14.2.2.2.2.1,r14.2.2.2.2.2.1,r14.2.2.2.2.2.2)).bind fun r15 =>
 some (r15.1,r14.2.1,r14.2.2.1,r14.2.2.2.1,r14.2.2.2.2.1,r14.2.2.2.2.2.1,r14.2.2.2.2.2.2)
 else
 bif (eqI x.2.1.2.1 (3:Int)) then
 (Z3h (x.2.1,r14.2.1,r14.2.2.1,r14.2.2.2.1,r14.2.2.2.2.1,r14.2.2.2.2.2.1,r14.2.2.2.2.2.2)).bind fun r15 =>
 some (r15.1,r15.2.1,r15.2.2.1,r15.2.2.2.1,r15.2.2.2.2.1,r15.2.2.2.2.2.1,r15.2.2.2.2.2.2)
 else
 bif (eqI x.2.1.2.1 (5:Int)) then
 (Z3j (x.2.1,r14.2.1,r14.2.2.1,r14.2.2.2.1,r14.2.2.2.2.1,r14.2.2.2.2.2.1,r14.2.2.2.2.2.2)).bind fun r15 =>
 some (r15.1,r15.2.1,r15.2.2.1,r15.2.2.2.1,r15.2.2.2.2.1,r15.2.2.2.2.2.1,r15.2.2.2.2.2.2)
 else
 bif (eqI x.2.1.2.1 (6:Int)) then
 (Z3l (x.2.1,r14.2.1,r14.2.2.1,r14.2.2.2.1,r14.2.2.2.2.1,r14.2.2.2.2.2.1,r14.2.2.2.2.2.2)).bind fun r15 =>
 some (r15.1,r15.2.1,r15.2.2.1,r15.2.2.2.1,r15.2.2.2.2.1,r15.2.2.2.2.2.1,r15.2.2.2.2.2.2)
 else
 bif (eqI x.2.1.2.1 (7:Int)) then
 (Z3n (x.2.1,r14.2.1,r14.2.2.1,r14.2.2.2.1,r14.2.2.2.2.1,r14.2.2.2.2.2.1,r14.2.2.2.2.2.2)).bind fun r15 =>
 some (r15.1,r15.2.1,r15.2.2.1,r15.2.2.2.1,r15.2.2.2.2.1,r15.2.2.2.2.2.1,r15.2.2.2.2.2.2)
 else
 bif (eqI x.2.1.2.1 (11:Int)) then
 (Z3p (x.2.1,r14.2.1,r14.2.2.1,r14.2.2.2.1,r14.2.2.2.2.1,r14.2.2.2.2.2.1,r14.2.2.2.2.2.2)).bind fun r15 =>
 some (r15.1,r15.2.1,r15.2.2.1,r15.2.2.2.1,r15.2.2.2.2.1,r15.2.2.2.2.2.1,r15.2.2.2.2.2.2)
 else
 bif (eqI x.2.1.2.1 (12:Int)) then
 (Z3r (x.2.1,r14.2.1,r14.2.2.1,r14.2.2.2.1,r14.2.2.2.2.1,r14.2.2.2.2.2.1,r14.2.2.2.2.2.2)).bind fun r15 =>
 some (r15.1,r15.2.1,r15.2.2.1,r15.2.2.2.1,r15.2.2.2.2.1,r15.2.2.2.2.2.1,r15.2.2.2.2.2.2)
 else
 bif (eqI x.2.1.2.1 (14:Int)) then
 (Z3t (x.2.1,r14.2.1,r14.2.2.1,r14.2.2.2.1,r14.2.2.2.2.1,r14.2.2.2.2.2.1,r14.2.2.2.2.2.2)).bind fun r15 =>
 some (r15.1,r15.2.1,r15.2.2.1,r15.2.2.2.1,r15.2.2.2.2.1,r15.2.2.2.2.2.1,r15.2.2.2.2.2.2)
 else
 bif (eqI x.2.1.2.1 (15:Int)) then
 (Z3b (x.2.1,r14.2.1,r14.2.2.1,r14.2.2.2.1,r14.2.2.2.2.1,r14.2.2.2.2.2.1,r14.2.2.2.2.2.2)).bind fun r15 =>
 some (r15.1,r15.2.1,r15.2.2.1,r15.2.2.2.1,r15.2.2.2.2.1,r15.2.2.2.2.2.1,r15.2.2.2.2.2.2)
 else
 some (true,r14.2.1,r14.2.2.1,r14.2.2.2.1,r14.2.2.2.2.1,r14.2.2.2.2.2.1,r14.2.2.2.2.2.2)
 else
 none
 else
 bif (inb x.2.1.1 8) then
 bif ((getAt (0:Int) x.2.2.2.1 (toN x.2.1.1)) == (0:Int)) then
 some (false,x.2.2.1,x.2.2.2.1,x.2.2.2.2.1,x.2.2.2.2.2.1,x.2.2.2.2.2.2.1,x.2.2.2.2.2.2.2)
 else
 bif (Bool.not (x.2.1.2.1 == (5:Int))) then
 bif (x.2.1.2.2.2.1 != (0:Int)) then
 some (false,x.2.2.1,x.2.2.2.1,x.2.2.2.2.1,x.2.2.2.2.2.1,x.2.2.2.2.2.2.1,x.2.2.2.2.2.2.2)
 else
 bif (x.2.1.2.1 != (1:Int)) then
 (Z33 (x.2.1.2.1,x.2.2.1,x.2.2.2.1,x.2.2.2.2.1,x.2.2.2.2.2.1,x.2.2.2.2.2.2.1,x.2.2.2.2.2.2.2)).bind fun r14 =>
 (Z2s (x.2.1.2.2.1,(0:Int),(IntKind.wrap .i64 (r14.1 - (1:Int))))).bind fun r15 =>
 bif (Bool.not r15) then
 some (false,r14.2.1,r14.2.2.1,r14.2.2.2.1,r14.2.2.2.2.1,r14.2.2.2.2.2.1,r14.2.2.2.2.2.2)
 else
 (Z2u (x.1,x.2.1,r14.2.1,r14.2.2.1,r14.2.2.2.1,r14.2.2.2.2.1,r14.2.2.2.2.2.1,r14.2.2.2.2.2.2)).bind fun r16 =>
 bif (Bool.not r16.1) then
 some (false,r16.2.1,r16.2.2.1,r16.2.2.2.1,r16.2.2.2.2.1,r16.2.2.2.2.2.1,r16.2.2.2.2.2.2)
 else
 bif (eqI x.2.1.2.1 (1:Int)) then
 (Z3e (x.2.1,r16.2.1,r16.2.2.1,r16.2.2.2.1,r16.2.2.2.2.1,r16.2.2.2.2.2.1,r16.2.2.2.2.2.2)).bind fun r17 =>
 some (r17.1,r16.2.1,r16.2.2.1,r16.2.2.2.1,r16.2.2.2.2.1,r16.2.2.2.2.2.1,r16.2.2.2.2.2.2)
 else
 bif (eqI x.2.1.2.1 (3:Int)) then
 (Z3h (x.2.1,r16.2.1,r16.2.2.1,r16.2.2.2.1,r16.2.2.2.2.1,r16.2.2.2.2.2.1,r16.2.2.2.2.2.2)).bind fun r17 =>
 some (r17.1,r17.2.1,r17.2.2.1,r17.2.2.2.1,r17.2.2.2.2.1,r17.2.2.2.2.2.1,r17.2.2.2.2.2.2)
 else
 bif (eqI x.2.1.2.1 (5:Int)) then
 (Z3j (x.2.1,r16.2.1,r16.2.2.1,r16.2.2.2.1,r16.2.2.2.2.1,r16.2.2.2.2.2.1,r16.2.2.2.2.2.2)).bind fun r17 =>
 some (r17.1,r17.2.1,r17.2.2.1,r17.2.2.2.1,r17.2.2.2.2.1,r17.2.2.2.2.2.1,r17.2.2.2.2.2.2)
 else
 bif (eqI x.2.1.2.1 (6:Int)) then
 (Z3l (x.2.1,r16.2.1,r16.2.2.1,r16.2.2.2.1,r16.2.2.2.2.1,r16.2.2.2.2.2.1,r16.2.2.2.2.2.2)).bind fun r17 =>
 some (r17.1,r17.2.1,r17.2.2.1,r17.2.2.2.1,r17.2.2.2.2.1,r17.2.2.2.2.2.1,r17.2.2.2.2.2.2)
 else
 bif (eqI x.2.1.2.1 (7:Int)) then
 (Z3n (x.2.1,r16.2.1,r16.2.2.1,r16.2.2.2.1,r16.2.2.2.2.1,r16.2.2.2.2.2.1,r16.2.2.2.2.2.2)).bind fun r17 =>
 some (r17.1,r17.2.1,r17.2.2.1,r17.2.2.2.1,r17.2.2.2.2.1,r17.2.2.2.2.2.1,r17.2.2.2.2.2.2)
 else
 bif (eqI x.2.1.2.1 (11:Int)) then
 (Z3p (x.2.1,r16.2.1,r16.2.2.1,r16.2.2.2.1,r16.2.2.2.2.1,r16.2.2.2.2.2.1,r16.2.2.2.2.2.2)).bind fun r17 =>
 some (r17.1,r17.2.1,r17.2.2.1,r17.2.2.2.1,r17.2.2.2.2.1,r17.2.2.2.2.2.1,r17.2.2.2.2.2.2)
 else
 bif (eqI x.2.1.2.1 (12:Int)) then
 (Z3r (x.2.1,r16.2.1,r16.2.2.1,r16.2.2.2.1,r16.2.2.2.2.1,r16.2.2.2.2.2.1,r16.2.2.2.2.2.2)).bind fun r17 =>
 some (r17.1,r17.2.1,r17.2.2.1,r17.2.2.2.1,r17.2.2.2.2.1,r17.2.2.2.2.2.1,r17.2.2.2.2.2.2)
 else
 bif (eqI x.2.1.2.1 (14:Int)) then
 (Z3t (x.2.1,r16.2.1,r16.2.2.1,r16.2.2.2.1,r16.2.2.2.2.1,r16.2.2.2.2.2.1,r16.2.2.2.2.2.2)).bind fun r17 =>
 some (r17.1,r17.2.1,r17.2.2.1,r17.2.2.2.1,r17.2.2.2.2.1,r17.2.2.2.2.2.1,r17.2.2.2.2.2.2)
 else
 bif (eqI x.2.1.2.1 (15:Int)) then
 (Z3b (x.2.1,r16.2.1,r16.2.2.1,r16.2.2.2.1,r16.2.2.2.2.1,r16.2.2.2.2.2.1,r16.2.2.2.2.2.2)).bind fun r17 =>
 some (r17.1,r17.2.1,r17.2.2.1,r17.2.2.2.1,r17.2.2.2.2.1,r17.2.2.2.2.2.1,r17.2.2.2.2.2.2)
 else
 some (true,r16.2.1,r16.2.2.1,r16.2.2.2.1,r16.2.2.2.2.1,r16.2.2.2.2.2.1,r16.2.2.2.2.2.2)
 else
 (Z2u (x.1,x.2.1,x.2.2.1,x.2.2.2.1,x.2.2.2.2.1,x.2.2.2.2.2.1,x.2.2.2.2.2.2.1,x.2.2.2.2.2.2.2)).bind fun r14 =>
 bif (Bool.not r14.1) then
 some (false,r14.2.1,r14.2.2.1,r14.2.2.2.1,r14.2.2.2.2.1,r14.2.2.2.2.2.1,r14.2.2.2.2.2.2)
 else
 bif (eqI x.2.1.2.1 (1:Int)) then
 (Z3e (x.2.1,r14.2.1,r14.2.2.1,r14.2.2.2.1,r14.2.2.2.2.1,r14.2.2.2.2.2.1,r14.2.2.2.2.2.2)).bind fun r15 =>
 some (r15.1,r14.2.1,r14.2.2.1,r14.2.2.2.1,r14.2.2.2.2.1,r14.2.2.2.2.2.1,r14.2.2.2.2.2.2)
 else
 bif (eqI x.2.1.2.1 (3:Int)) then
 (Z3h (x.2.1,r14.2.1,r14.2.2.1,r14.2.2.2.1,r14.2.2.2.2.1,r14.2.2.2.2.2.1,r14.2.2.2.2.2.2)).bind fun r15 =>
 some (r15.1,r15.2.1,r15.2.2.1,r15.2.2.2.1,r15.2.2.2.2.1,r15.2.2.2.2.2.1,r15.2.2.2.2.2.2)
 else
 bif (eqI x.2.1.2.1 (5:Int)) then
 (Z3j (x.2.1,r14.2.1,r14.2.2.1,r14.2.2.2.1,r14.2.2.2.2.1,r14.2.2.2.2.2.1,r14.2.2.2.2.2.2)).bind fun r15 =>
 some (r15.1,r15.2.1,r15.2.2.1,r15.2.2.2.1,r15.2.2.2.2.1,r15.2.2.2.2.2.1,r15.2.2.2.2.2.2)
 else
 bif (eqI x.2.1.2.1 (6:Int)) then
 (Z3l (x.2.1,r14.2.1,r14.2.2.1,r14.2.2.2.1,r14.2.2.2.2.1,r14.2.2.2.2.2.1,r14.2.2.2.2.2.2)).bind fun r15 =>
 some (r15.1,r15.2.1,r15.2.2.1,r15.2.2.2.1,r15.2.2.2.2.1,r15.2.2.2.2.2.1,r15.2.2.2.2.2.2)
 else
 bif (eqI x.2.1.2.1 (7:Int)) then
 (Z3n (x.2.1,r14.2.1,r14.2.2.1,r14.2.2.2.1,r14.2.2.2.2.1,r14.2.2.2.2.2.1,r14.2.2.2.2.2.2)).bind fun r15 =>
 some (r15.1,r15.2.1,r15.2.2.1,r15.2.2.2.1,r15.2.2.2.2.1,r15.2.2.2.2.2.1,r15.2.2.2.2.2.2)
 else
 bif (eqI x.2.1.2.1 (11:Int)) then
 (Z3p (x.2.1,r14.2.1,r14.2.2.1,r14.2.2.2.1,r14.2.2.2.2.1,r14.2.2.2.2.2.1,r14.2.2.2.2.2.2)).bind fun r15 =>
 some (r15.1,r15.2.1,r15.2.2.1,r15.2.2.2.1,r15.2.2.2.2.1,r15.2.2.2.2.2.1,r15.2.2.2.2.2.2)
 else
 bif (eqI x.2.1.2.1 (12:Int)) then
 (Z3r (x.2.1,r14.2.1,r14.2.2.1,r14.2.2.2.1,r14.2.2.2.2.1,r14.2.2.2.2.2.1,r14.2.2.2.2.2.2)).bind fun r15 =>
 some (r15.1,r15.2.1,r15.2.2.1,r15.2.2.2.1,r15.2.2.2.2.1,r15.2.2.2.2.2.1,r15.2.2.2.2.2.2)
 else
 bif (eqI x.2.1.2.1 (14:Int)) then
 (Z3t (x.2.1,r14.2.1,r14.2.2.1,r14.2.2.2.1,r14.2.2.2.2.1,r14.2.2.2.2.2.1,r14.2.2.2.2.2.2)).bind fun r15 =>
 some (r15.1,r15.2.1,r15.2.2.1,r15.2.2.2.1,r15.2.2.2.2.1,r15.2.2.2.2.2.1,r15.2.2.2.2.2.2)
 else
 bif (eqI x.2.1.2.1 (15:Int)) then
 (Z3b (x.2.1,r14.2.1,r14.2.2.1,r14.2.2.2.1,r14.2.2.2.2.1,r14.2.2.2.2.2.1,r14.2.2.2.2.2.2)).bind fun r15 =>
 some (r15.1,r15.2.1,r15.2.2.1,r15.2.2.2.1,r15.2.2.2.2.1,r15.2.2.2.2.2.1,r15.2.2.2.2.2.2)
 else
 some (true,r14.2.1,r14.2.2.1,r14.2.2.2.1,r14.2.2.2.2.1,r14.2.2.2.2.2.1,r14.2.2.2.2.2.2)
 else
 bif (x.2.1.2.1 != (1:Int)) then
 (Z33 (x.2.1.2.1,x.2.2.1,x.2.2.2.1,x.2.2.2.2.1,x.2.2.2.2.2.1,x.2.2.2.2.2.2.1,x.2.2.2.2.2.2.2)).bind fun r14 =>
 (Z2s (x.2.1.2.2.1,(0:Int),(IntKind.wrap .i64 (r14.1 - (1:Int))))).bind fun r15 =>
 bif (Bool.not r15) then
 some (false,r14.2.1,r14.2.2.1,r14.2.2.2.1,r14.2.2.2.2.1,r14.2.2.2.2.2.1,r14.2.2.2.2.2.2)
 else
 (Z2u (x.1,x.2.1,r14.2.1,r14.2.2.1,r14.2.2.2.1,r14.2.2.2.2.1,r14.2.2.2.2.2.1,r14.2.2.2.2.2.2)).bind fun r16 =>
 bif (Bool.not r16.1) then
 some (false,r16.2.1,r16.2.2.1,r16.2.2.2.1,r16.2.2.2.2.1,r16.2.2.2.2.2.1,r16.2.2.2.2.2.2)
 else
 bif (eqI x.2.1.2.1 (1:Int)) then
 (Z3e (x.2.1,r16.2.1,r16.2.2.1,r16.2.2.2.1,r16.2.2.2.2.1,r16.2.2.2.2.2.1,r16.2.2.2.2.2.2)).bind fun r17 =>
 some (r17.1,r16.2.1,r16.2.2.1,r16.2.2.2.1,r16.2.2.2.2.1,r16.2.2.2.2.2.1,r16.2.2.2.2.2.2)
 else
 bif (eqI x.2.1.2.1 (3:Int)) then
 (Z3h (x.2.1,r16.2.1,r16.2.2.1,r16.2.2.2.1,r16.2.2.2.2.1,r16.2.2.2.2.2.1,r16.2.2.2.2.2.2)).bind fun r17 =>
 some (r17.1,r17.2.1,r17.2.2.1,r17.2.2.2.1,r17.2.2.2.2.1,r17.2.2.2.2.2.1,r17.2.2.2.2.2.2)
 else
 bif (eqI x.2.1.2.1 (5:Int)) then
 (Z3j (x.2.1,r16.2.1,r16.2.2.1,r16.2.2.2.1,r16.2.2.2.2.1,r16.2.2.2.2.2.1,r16.2.2.2.2.2.2)).bind fun r17 =>
 some (r17.1,r17.2.1,r17.2.2.1,r17.2.2.2.1,r17.2.2.2.2.1,r17.2.2.2.2.2.1,r17.2.2.2.2.2.2)
 else
 bif (eqI x.2.1.2.1 (6:Int)) then
 (Z3l (x.2.1,r16.2.1,r16.2.2.1,r16.2.2.2.1,r16.2.2.2.2.1,r16.2.2.2.2.2.1,r16.2.2.2.2.2.2)).bind fun r17 =>
 some (r17.1,r17.2.1,r17.2.2.1,r17.2.2.2.1,r17.2.2.2.2.1,r17.2.2.2.2.2.1,r17.2.2.2.2.2.2)
 else
 bif (eqI x.2.1.2.1 (7:Int)) then
 (Z3n (x.2.1,r16.2.1,r16.2.2.1,r16.2.2.2.1,r16.2.2.2.2.1,r16.2.2.2.2.2.1,r16.2.2.2.2.2.2)).bind fun r17 =>
 some (r17.1,r17.2.1,r17.2.2.1,r17.2.2.2.1,r17.2.2.2.2.1,r17.2.2.2.2.2.1,r17.2.2.2.2.2.2)
 else
 bif (eqI x.2.1.2.1 (11:Int)) then
 (Z3p (x.2.1,r16.2.1,r16.2.2.1,r16.2.2.2.1,r16.2.2.2.2.1,r16.2.2.2.2.2.1,r16.2.2.2.2.2.2)).bind fun r17 =>
 some (r17.1,r17.2.1,r17.2.2.1,r17.2.2.2.1,r17.2.2.2.2.1,r17.2.2.2.2.2.1,r17.2.2.2.2.2.2)
 else
 bif (eqI x.2.1.2.1 (12:Int)) then
 (Z3r (x.2.1,r16.2.1,r16.2.2.1,r16.2.2.2.1,r16.2.2.2.2.1,r16.2.2.2.2.2.1,r16.2.2.2.2.2.2)).bind fun r17 =>
 some (r17.1,r17.2.1,r17.2.2.1,r17.2.2.2.1,r17.2.2.2.2.1,r17.2.2.2.2.2.1,r17.2.2.2.2.2.2)
 else
 bif (eqI x.2.1.2.1 (14:Int)) then
 (Z3t (x.2.1,r16.2.1,r16.2.2.1,r16.2.2.2.1,r16.2.2.2.2.1,r16.2.2.2.2.2.1,r16.2.2.2.2.2.2)).bind fun r17 =>
 some (r17.1,r17.2.1,r17.2.2.1,r17.2.2.2.1,r17.2.2.2.2.1,r17.2.2.2.2.2.1,r17.2.2.2.2.2.2)
 else
 bif (eqI x.2.1.2.1 (15:Int)) then
 (Z3b (x.2.1,r16.2.1,r16.2.2.1,r16.2.2.2.1,r16.2.2.2.2.1,r16.2.2.2.2.2.1,r16.2.2.2.2.2.2)).bind fun r17 =>
 some (r17.1,r17.2.1,r17.2.2.1,r17.2.2.2.1,r17.2.2.2.2.1,r17.2.2.2.2.2.1,r17.2.2.2.2.2.2)
 else
 some (true,r16.2.1,r16.2.2.1,r16.2.2.2.1,r16.2.2.2.2.1,r16.2.2.2.2.2.1,r16.2.2.2.2.2.2)
 else
 (Z2u (x.1,x.2.1,x.2.2.1,x.2.2.2.1,x.2.2.2.2.1,x.2.2.2.2.2.1,x.2.2.2.2.2.2.1,x.2.2.2.2.2.2.2)).bind fun r14 =>
 bif (Bool.not r14.1) then
 some (false,r14.2.1,r14.2.2.1,r14.2.2.2.1,r14.2.2.2.2.1,r14.2.2.2.2.2.1,r14.2.2.2.2.2.2)
 else
 bif (eqI x.2.1.2.1 (1:Int)) then
 (Z3e (x.2.1,r14.2.1,r14.2.2.1,r14.2.2.2.1,r14.2.2.2.2.1,r14.2.2.2.2.2.1,r14.2.2.2.2.2.2)).bind fun r15 =>
 some (r15.1,r14.2.1,r14.2.2.1,r14.2.2.2.1,r14.2.2.2.2.1,r14.2.2.2.2.2.1,r14.2.2.2.2.2.2)
 else
 bif (eqI x.2.1.2.1 (3:Int)) then
 (Z3h (x.2.1,r14.2.1,r14.2.2.1,r14.2.2.2.1,r14.2.2.2.2.1,r14.2.2.2.2.2.1,r14.2.2.2.2.2.2)).bind fun r15 =>
 some (r15.1,r15.2.1,r15.2.2.1,r15.2.2.2.1,r15.2.2.2.2.1,r15.2.2.2.2.2.1,r15.2.2.2.2.2.2)
 else
 bif (eqI x.2.1.2.1 (5:Int)) then
 (Z3j (x.2.1,r14.2.1,r14.2.2.1,r14.2.2.2.1,r14.2.2.2.2.1,r14.2.2.2.2.2.1,r14.2.2.2.2.2.2)).bind fun r15 =>
 some (r15.1,r15.2.1,r15.2.2.1,r15.2.2.2.1,r15.2.2.2.2.1,r15.2.2.2.2.2.1,r15.2.2.2.2.2.2)
 else
 bif (eqI x.2.1.2.1 (6:Int)) then
 (Z3l (x.2.1,r14.2.1,r14.2.2.1,r14.2.2.2.1,r14.2.2.2.2.1,r14.2.2.2.2.2.1,r14.2.2.2.2.2.2)).bind fun r15 =>
 some (r15.1,r15.2.1,r15.2.2.1,r15.2.2.2.1,r15.2.2.2.2.1,r15.2.2.2.2.2.1,r15.2.2.2.2.2.2)
 else
 bif (eqI x.2.1.2.1 (7:Int)) then
 (Z3n (x.2.1,r14.2.1,r14.2.2.1,r14.2.2.2.1,r14.2.2.2.2.1,r14.2.2.2.2.2.1,r14.2.2.2.2.2.2)).bind fun r15 =>
 some (r15.1,r15.2.1,r15.2.2.1,r15.2.2.2.1,r15.2.2.2.2.1,r15.2.2.2.2.2.1,r15.2.2.2.2.2.2)
 else
 bif (eqI x.2.1.2.1 (11:Int)) then
 (Z3p (x.2.1,r14.2.1,r14.2.2.1,r14.2.2.2.1,r14.2.2.2.2.1,r14.2.2.2.2.2.1,r14.2.2.2.2.2.2)).bind fun r15 =>
 some (r15.1,r15.2.1,r15.2.2.1,r15.2.2.2.1,r15.2.2.2.2.1,r15.2.2.2.2.2.1,r15.2.2.2.2.2.2)
 else
 bif (eqI x.2.1.2.1 (12:Int)) then
 (Z3r (x.2.1,r14.2.1,r14.2.2.1,r14.2.2.2.1,r14.2.2.2.2.1,r14.2.2.2.2.2.1,r14.2.2.2.2.2.2)).bind fun r15 =>
 some (r15.1,r15.2.1,r15.2.2.1,r15.2.2.2.1,r15.2.2.2.2.1,r15.2.2.2.2.2.1,r15.2.2.2.2.2.2)
 else
 bif (eqI x.2.1.2.1 (14:Int)) then
 (Z3t (x.2.1,r14.2.1,r14.2.2.1,r14.2.2.2.1,r14.2.2.2.2.1,r14.2.2.2.2.2.1,r14.2.2.2.2.2.2)).bind fun r15 =>
 some (r15.1,r15.2.1,r15.2.2.1,r15.2.2.2.1,r15.2.2.2.2.1,r15.2.2.2.2.2.1,r15.2.2.2.2.2.2)
 else
 bif (eqI x.2.1.2.1 (15:Int)) then
 (Z3b (x.2.1,r14.2.1,r14.2.2.1,r14.2.2.2.1,r14.2.2.2.2.1,r14.2.2.2.2.2.1,r14.2.2.2.2.2.2)).bind fun r15 =>
 some (r15.1,r15.2.1,r15.2.2.1,r15.2.2.2.1,r15.2.2.2.2.1,r15.2.2.2.2.2.1,r15.2.2.2.2.2.2)
 else
 some (true,r14.2.1,r14.2.2.1,r14.2.2.2.1,r14.2.2.2.2.1,r14.2.2.2.2.2.1,r14.2.2.2.2.2.2)
 else
 none
abbrev Zgx:=Spec.shp Zcg Zep Z37
def Z8j:Ctx:={ tb:=mkTb T2.tbl,fx:=[(34,[],Zgq),(86,[],Spec.thin (Zgs)),(87,[],Spec.thin (Zgv)),(88,[],Spec.thin (Zgr)),(55,[],Spec.shpR Zck Zet Z3e),(56,[],Spec.thin (Zh2)),(58,[],Spec.thin (Zh3)),(59,[],Spec.thin (Zh4)),(60,[],Spec.thin (Zh5)),(61,[],Spec.thin (Zh6)),(62,[],Spec.thin (Zh7)),(63,[],Spec.thin (Zh8)),(64,[],Spec.thin (Zh0))],sum:=[],nt:=106,pin:=7,nr:=true,ys:=[] }
theorem Z38:Sound Try.prog 65 (Zgx) :=
 Sound.shp (C:=Z8j) (fn:=Try.f65) (by kernel_rfl) (c:=bodyOf Try.f65) (by kernel_rfl) (by decide) (ctxOK mixed tbl_ok rfl ⟨Z2t,Z2x.thin,Z34.thin,Z2v.thin,Z3g,Z3i.thin,Z3k.thin,Z3m.thin,Z3o.thin,Z3q.thin,Z3s.thin,Z3u.thin,Z3c.thin,trivial⟩ trivial) (SumOK.of trivial) (by kernel_rfl) Zcg Zep rfl (by decide) (by decide) rfl (by decide) rfl Z37 (fun x=>by kernel_rfl)
abbrev Zcc:Shape:={ sl:=sl_2,bl:=bl_0,ts:=ts_1,pin:=0 }
abbrev Zel:Shape:={ sl:=sl_0,bl:=bl_0,ts:=ts_2,pin:=7 }
def Z2y (x:T18):Option T12 :=
 (Z37 (x.1,x.2.1,x.2.2.1,x.2.2.2.1,x.2.2.2.2.1,x.2.2.2.2.2.1,x.2.2.2.2.2.2.1,x.2.2.2.2.2.2.2)).bind fun r10 =>
 bif (Bool.not r10.1) then
 some (false,r10.2.1,r10.2.2.1,r10.2.2.2.1,r10.2.2.2.2.1,r10.2.2.2.2.2.1,r10.2.2.2.2.2.2)
 else
 bif (inb (natI (@mpos (Int × Int) (Int) (Ty.beq y4) (x.2.1.2.1,x.2.1.2.2.1) r10.2.2.2.2.1)) (List.length (@mput (Int × Int) (Int) (Ty.beq y4) (x.2.1.2.1,x.2.1.2.2.1) (@mlook (Int × Int) (Int) (Ty.beq y4) (Ty.zero (.int .i64)) (x.2.1.2.1,x.2.1.2.2.1) r10.2.2.2.2.1) r10.2.2.2.2.1))) then
 bif (inb x.2.1.1 8) then
 bif (x.2.1.2.1 == (0:Int)) then
 some (true,r10.2.1,(List.set r10.2.2.1 (toN x.2.1.1) (IntKind.wrap .i64 ((((List.length x.1):Nat):Int)+(1:Int)))),(IntKind.wrap .i64 (r10.2.2.2.1+(1:Int))),(mset (@mput (Int × Int) (Int) (Ty.beq y4) (x.2.1.2.1,x.2.1.2.2.1) (@mlook (Int × Int) (Int) (Ty.beq y4) (Ty.zero (.int .i64)) (x.2.1.2.1,x.2.1.2.2.1) r10.2.2.2.2.1) r10.2.2.2.2.1) (toN (natI (@mpos (Int × Int) (Int) (Ty.beq y4) (x.2.1.2.1,x.2.1.2.2.1) r10.2.2.2.2.1))) (IntKind.wrap .i64 ((@mlook (Int × Int) (Int) (Ty.beq y4) (Ty.zero (.int .i64)) (x.2.1.2.1,x.2.1.2.2.1) r10.2.2.2.2.1)+(1:Int)))),r10.2.2.2.2.2.1,r10.2.2.2.2.2.2)
 else
 bif (x.2.1.2.1 == (13:Int)) then
 bif ((@mlook (Int) (Int) (Ty.beq (.int .i64)) (Ty.zero (.int .i64)) x.2.1.2.2.1 r10.2.2.2.2.2.1) == (0:Int)) then
 some (true,r10.2.1,(List.set r10.2.2.1 (toN x.2.1.1) (IntKind.wrap .i64 ((((List.length x.1):Nat):Int)+(1:Int)))),r10.2.2.2.1,(mset (@mput (Int × Int) (Int) (Ty.beq y4) (x.2.1.2.1,x.2.1.2.2.1) (@mlook (Int × Int) (Int) (Ty.beq y4) (Ty.zero (.int .i64)) (x.2.1.2.1,x.2.1.2.2.1) r10.2.2.2.2.1) r10.2.2.2.2.1) (toN (natI (@mpos (Int × Int) (Int) (Ty.beq y4) (x.2.1.2.1,x.2.1.2.2.1) r10.2.2.2.2.1))) (IntKind.wrap .i64 ((@mlook (Int × Int) (Int) (Ty.beq y4) (Ty.zero (.int .i64)) (x.2.1.2.1,x.2.1.2.2.1) r10.2.2.2.2.1)+(1:Int)))),(@mput (Int) (Int) (Ty.beq (.int .i64)) x.2.1.2.2.1 (IntKind.wrap .i64 (x.2.1.1+(1:Int))) r10.2.2.2.2.2.1),r10.2.2.2.2.2.2)
 else
 some (true,r10.2.1,(List.set r10.2.2.1 (toN x.2.1.1) (IntKind.wrap .i64 ((((List.length x.1):Nat):Int)+(1:Int)))),r10.2.2.2.1,(mset (@mput (Int × Int) (Int) (Ty.beq y4) (x.2.1.2.1,x.2.1.2.2.1) (@mlook (Int × Int) (Int) (Ty.beq y4) (Ty.zero (.int .i64)) (x.2.1.2.1,x.2.1.2.2.1) r10.2.2.2.2.1) r10.2.2.2.2.1) (toN (natI (@mpos (Int × Int) (Int) (Ty.beq y4) (x.2.1.2.1,x.2.1.2.2.1) r10.2.2.2.2.1))) (IntKind.wrap .i64 ((@mlook (Int × Int) (Int) (Ty.beq y4) (Ty.zero (.int .i64)) (x.2.1.2.1,x.2.1.2.2.1) r10.2.2.2.2.1)+(1:Int)))),r10.2.2.2.2.2.1,r10.2.2.2.2.2.2)
 else
 some (true,r10.2.1,(List.set r10.2.2.1 (toN x.2.1.1) (IntKind.wrap .i64 ((((List.length x.1):Nat):Int)+(1:Int)))),r10.2.2.2.1,(mset (@mput (Int × Int) (Int) (Ty.beq y4) (x.2.1.2.1,x.2.1.2.2.1) (@mlook (Int × Int) (Int) (Ty.beq y4) (Ty.zero (.int .i64)) (x.2.1.2.1,x.2.1.2.2.1) r10.2.2.2.2.1) r10.2.2.2.2.1) (toN (natI (@mpos (Int × Int) (Int) (Ty.beq y4) (x.2.1.2.1,x.2.1.2.2.1) r10.2.2.2.2.1))) (IntKind.wrap .i64 ((@mlook (Int × Int) (Int) (Ty.beq y4) (Ty.zero (.int .i64)) (x.2.1.2.1,x.2.1.2.2.1) r10.2.2.2.2.1)+(1:Int)))),r10.2.2.2.2.2.1,r10.2.2.2.2.2.2)
 else
 none
 else
 none
abbrev Zgt:=Spec.shp Zcc Zel Z2y
def Z8f:Ctx:={ tb:=mkTb T2.tbl,fx:=[(65,[],Spec.thin (Zgx))],sum:=[],nt:=64,pin:=7,nr:=true,ys:=[] }
theorem Z2z:Sound Try.prog 37 (Zgt) :=
 Sound.shp (C:=Z8f) (fn:=Try.f37) (by kernel_rfl) (c:=bodyOf Try.f37) (by kernel_rfl) (by decide) (ctxOK mixed tbl_ok rfl ⟨Z38.thin,trivial⟩ trivial) (SumOK.of trivial) (by kernel_rfl) Zcc Zel rfl (by decide) (by decide) rfl (by decide) rfl Z2y (fun x=>by kernel_rfl)
abbrev Zas:Shape:={ sl:=[(1,(.hole y13)),(6,(.ptr 0 [])),(27,(.hole y13)),(28,(.hole (.int .i64))),(29,(.hole (.int .i64)))],bl:=bl_0,ts:=[y13,y13,(.int .i64),(.int .i64),y0,y1,(.int .i64),(.slice y6),(.slice y4),(.slice y4)],pin:=0 }
abbrev Z9z:List (ETag × Shape):=[(.ret,{ sl:=[(4,(.hole (.int .i64))),(5,(.hole (.int .i64)))],bl:=[],ts:=[(.int .i64),(.int .i64)],pin:=0 }),(.exit 0,{ sl:=[],bl:=[],ts:=[],pin:=0 })]
def Z60 (x:(List (T9) × List (T9) × Int × Int × List Int × List Int × Int × List (T4) × List (Int × Int) × List (Int × Int))):Option ((List (T9) × List (T9) × Int × Int × List Int × List Int × Int × List (T4) × List (Int × Int) × List (Int × Int)) ⊕ ((Int × Int) ⊕ Unit)) :=
 bif (decide (x.2.2.2.1 < x.2.2.1)) then
 bif (inb x.2.2.2.1 (List.length x.2.1)) then
 bif (sub3 (0:Int) x.2.2.2.1 (List.length x.1)) then
 (Z2y ((cut x.1 (toN (0:Int)) ((toN x.2.2.2.1) - (toN (0:Int)))),(getAt ((0:Int),(0:Int),(0:Int),(0:Int),(0:Int)) x.2.1 (toN x.2.2.2.1)),x.2.2.2.2.1,x.2.2.2.2.2.1,x.2.2.2.2.2.2.1,x.2.2.2.2.2.2.2.1,x.2.2.2.2.2.2.2.2.1,x.2.2.2.2.2.2.2.2.2)).bind fun r9 =>
 bif (Bool.not r9.1) then
 some (.inr (.inl (x.2.2.2.1,(0:Int))))
 else
 some (.inl (x.1,x.2.1,x.2.2.1,(IntKind.wrap .i64 (x.2.2.2.1+(1:Int))),r9.2.1,r9.2.2.1,r9.2.2.2.1,r9.2.2.2.2.1,r9.2.2.2.2.2.1,r9.2.2.2.2.2.2))
 else
 none
 else
 none
 else
 some (.inr (.inr ()))
def Z8b:Ctx:={ tb:=mkTb T2.tbl,fx:=[(32,[33],Zge),(35,[],Zh9),(36,[],Zgy),(37,[],Spec.thin (Zgt))],sum:=[],nt:=43,pin:=0,nr:=true,ys:=[] }
theorem Z61:CSound Try.prog ⟨43,0,true⟩ (.loop (loopOf 7 Try.f19)) (Yby Zas Z9z (loop Z60)) :=
 Y9b (C:=Z8b) (ctxOK mixed tbl_ok rfl ⟨Z25,Z3x,Z3v,Z2z.thin,trivial⟩ trivial) (SumOK.of trivial) Zas Z9z rfl rfl Z60 (fun x=>by kernel_rfl)
abbrev Zc7:Shape:={ sl:=sl_5,bl:=[],ts:=[y0,y13],pin:=0 }
abbrev Zeg:Shape:={ sl:=[(0,(.hole (.int .i64))),(1,(.hole (.int .i64)))],bl:=[],ts:=[(.int .i64),(.int .i64)],pin:=0 }
def Z2o (x:T14):Option (Int × Int) :=
 bif (decide ((((List.length x.1):Nat):Int) > (4:Int))) then
 some ((0:Int),(1:Int))
 else
 (Z24 x.1).bind fun r5 =>
 bif r5 then
 some ((0:Int),(1:Int))
 else
 (Z3w ()).bind fun r6 =>
 (Z39 (x.1,((0:Int) :: ((0:Int) :: ((0:Int) :: ((0:Int) :: ((0:Int) :: ((0:Int) :: ((0:Int) :: ((0:Int) :: ([]:List Int))))))))),(0:Int),([]:List T4),([]:List (Int × Int)),r6)).bind fun r7 =>
 (loop Z60 (x.2,x.2,(((List.length x.2):Nat):Int),(0:Int),r7.1,r7.2.1,r7.2.2.1,r7.2.2.2.1,r7.2.2.2.2.1,r7.2.2.2.2.2)).bind fun r8 =>
 match r8 with
 | .inl y9 =>
 some (y9.1,y9.2)
 | .inr y9 =>
 some ((Int.negSucc 0),(0:Int))
abbrev Zgo:=Spec.shp Zc7 Zeg Z2o
def Z89:Ctx:={ tb:=mkTb T2.tbl,fx:=[(32,[33],Zge),(35,[],Zh9),(36,[],Zgy),(37,[],Spec.thin (Zgt))],sum:=[(0,7,Yby Zas Z9z (loop Z60))],nt:=43,pin:=0,nr:=true,ys:=[] }
theorem Z2r:Sound Try.prog 19 (Zgo) :=
 Sound.shp (C:=Z89) (fn:=Try.f19) (by kernel_rfl) (c:=bodyOf Try.f19) (by kernel_rfl) (by decide) (ctxOK mixed tbl_ok rfl ⟨Z25,Z3x,Z3v,Z2z.thin,trivial⟩ trivial) (SumOK.of ⟨(Ybz (d:=.loop (loopOf 7 Try.f19)) (by kernel_rfl) Z61),trivial⟩) (by kernel_rfl) Zc7 Zeg rfl (by decide) (by decide) rfl (by decide) rfl Z2o (fun x=>by kernel_rfl)
abbrev Za4:Shape:={ sl:=[(5,(.ptr 0 [])),(16,(.hole y13)),(17,(.hole (.int .i64))),(18,(.hole (.int .i64)))],bl:=bl_3,ts:=[y13,(.int .i64),(.int .i64),y0,y11,(.slice y4),(.slice y4),(.slice y8),(.slice y4)],pin:=0 }
abbrev Z9b:List (ETag × Shape):=[(.exit 0,{ sl:=[(5,(.ptr 0 []))],bl:=bl_3,ts:=ts_5,pin:=0 })]
def Z4o (x:(List (T9) × Int × Int × List Int × List (T10) × List (Int × Int) × List (Int × Int) × List T1 × List (Int × Int))):Option ((List (T9) × Int × Int × List Int × List (T10) × List (Int × Int) × List (Int × Int) × List T1 × List (Int × Int)) ⊕ (List Int × List (T10) × List (Int × Int) × List (Int × Int) × List T1 × List (Int × Int))) :=
 bif (decide (x.2.2.1 < x.2.1)) then
 bif (inb x.2.2.1 (List.length x.1)) then
 bif ((getAt ((0:Int),(0:Int),(0:Int),(0:Int),(0:Int)) x.1 (toN x.2.2.1)).2.1 == (3:Int)) then
 some (.inl (x.1,x.2.1,(IntKind.wrap .i64 (x.2.2.1+(1:Int))),x.2.2.2.1,(@mput (Int × T0) (Int) (Ty.beq y7) ((getAt ((0:Int),(0:Int),(0:Int),(0:Int),(0:Int)) x.1 (toN x.2.2.1)).2.2.1,(getAt ((0:Int),(0:Int),(0:Int),(0:Int),(0:Int)) x.1 (toN x.2.2.1)).2.2.2.1,((getAt ((0:Int),(0:Int),(0:Int),(0:Int),(0:Int)) x.1 (toN x.2.2.1)).2.1 == (5:Int))) (IntKind.wrap .i64 ((getAt ((0:Int),(0:Int),(0:Int),(0:Int),(0:Int)) x.1 (toN x.2.2.1)).2.2.2.2+(1:Int))) x.2.2.2.2.1),x.2.2.2.2.2.1,x.2.2.2.2.2.2.1,x.2.2.2.2.2.2.2.1,x.2.2.2.2.2.2.2.2))
 else
 bif ((getAt ((0:Int),(0:Int),(0:Int),(0:Int),(0:Int)) x.1 (toN x.2.2.1)).2.1 == (5:Int)) then
 some (.inl (x.1,x.2.1,(IntKind.wrap .i64 (x.2.2.1+(1:Int))),x.2.2.2.1,(@mput (Int × T0) (Int) (Ty.beq y7) ((getAt ((0:Int),(0:Int),(0:Int),(0:Int),(0:Int)) x.1 (toN x.2.2.1)).2.2.1,(getAt ((0:Int),(0:Int),(0:Int),(0:Int),(0:Int)) x.1 (toN x.2.2.1)).2.2.2.1,((getAt ((0:Int),(0:Int),(0:Int),(0:Int),(0:Int)) x.1 (toN x.2.2.1)).2.1 == (5:Int))) (IntKind.wrap .i64 ((getAt ((0:Int),(0:Int),(0:Int),(0:Int),(0:Int)) x.1 (toN x.2.2.1)).2.2.2.2+(1:Int))) x.2.2.2.2.1),x.2.2.2.2.2.1,x.2.2.2.2.2.2.1,x.2.2.2.2.2.2.2.1,x.2.2.2.2.2.2.2.2))
 else
 some (.inl (x.1,x.2.1,(IntKind.wrap .i64 (x.2.2.1+(1:Int))),x.2.2.2.1,x.2.2.2.2.1,x.2.2.2.2.2.1,x.2.2.2.2.2.2.1,x.2.2.2.2.2.2.2.1,x.2.2.2.2.2.2.2.2))
 else
 none
 else
 some (.inr (x.2.2.2.1,x.2.2.2.2.1,x.2.2.2.2.2.1,x.2.2.2.2.2.2.1,x.2.2.2.2.2.2.2.1,x.2.2.2.2.2.2.2.2))
def Z6f:Ctx:={ tb:=mkTb T2.tbl,fx:=[],sum:=[],nt:=47,pin:=0,nr:=true,ys:=[] }
theorem Z4p:CSound Try.prog ⟨47,0,true⟩ (.loop (loopOf 4 Try.f20)) (Yby Za4 Z9b (loop Z4o)) :=
 Y9b (C:=Z6f) (ctxOK mixed tbl_ok rfl trivial trivial) (SumOK.of trivial) Za4 Z9b rfl rfl Z4o (fun x=>by kernel_rfl)
abbrev Zb1:Shape:={ sl:=sl_5,bl:=[],ts:=[y0,y13],pin:=0 }
abbrev Zda:Shape:={ sl:=[(0,(.ptr 0 []))],bl:=bl_3,ts:=ts_5,pin:=0 }
def Zc (x:T14):Option (List Int × List (T10) × List (Int × Int) × List (Int × Int) × List T1 × List (Int × Int)) :=
 (loop Z4o (x.2,(((List.length x.2):Nat):Int),(0:Int),x.1,([]:List T10),([]:List (Int × Int)),([]:List (Int × Int)),([]:List (Int × (List Int))),([]:List (Int × Int)))).bind fun r6 =>
 some (r6.1,r6.2.1,r6.2.2.1,r6.2.2.2.1,r6.2.2.2.2.1,r6.2.2.2.2.2)
abbrev Zfi:=Spec.shp Zb1 Zda Zc
def Z6e:Ctx:={ tb:=mkTb T2.tbl,fx:=[],sum:=[(0,4,Yby Za4 Z9b (loop Z4o))],nt:=47,pin:=0,nr:=true,ys:=[] }
theorem Zd:Sound Try.prog 20 (Zfi) :=
 Sound.shp (C:=Z6e) (fn:=Try.f20) (by kernel_rfl) (c:=bodyOf Try.f20) (by kernel_rfl) (by decide) (ctxOK mixed tbl_ok rfl trivial trivial) (SumOK.of ⟨(Ybz (d:=.loop (loopOf 4 Try.f20)) (by kernel_rfl) Z4p),trivial⟩) (by kernel_rfl) Zb1 Zda rfl (by decide) (by decide) rfl (by decide) rfl Zc (fun x=>by kernel_rfl)
abbrev Zaz:Shape:={ sl:=sl_4,bl:=bl_3,ts:=ts_6,pin:=0 }
abbrev Zd8:Shape:={ sl:=[(0,(.fn 38 .nil (.cons (.ptr 6 []) (.cons (.ptr 7 []) (.cons (.ptr 8 []) .nil)))))],bl:=[.var (.pr (.hole y0) (.pr (.mp 1) (.pr (.mp 2) (.pr (.mp 3) (.pr (.mp 4) (.mp 5)))))),.mp y7 (.int .i64),.mp (.int .i64) (.int .i64),.mp (.int .i64) (.int .i64),.mo (.int .i64) (.int .i64),.mp (.int .i64) (.int .i64),.var (.ptr 0 []),.var (.hole y12),.var (.hole (.int .i64))],ts:=[y0,y11,(.slice y4),(.slice y4),(.slice y8),(.slice y4),y12,(.int .i64)],pin:=6 }
def Z8 (x:(Int × T9 × List Int × List (T10) × List (Int × Int) × List (Int × Int) × List T1 × List (Int × Int))):Option (List Int × List (T10) × List (Int × Int) × List (Int × Int) × List T1 × List (Int × Int) × T9 × Int) :=
 some (x.2.2.1,x.2.2.2.1,x.2.2.2.2.1,x.2.2.2.2.2.1,x.2.2.2.2.2.2.1,x.2.2.2.2.2.2.2,x.2.1,x.1)
abbrev Zfg:=Spec.shp Zaz Zd8 Z8
def Z6b:Ctx:={ tb:=mkTb T2.tbl,fx:=[],sum:=[],nt:=8,pin:=6,nr:=true,ys:=[] }
theorem Zb:Sound Try.prog 21 (Zfg) :=
 Sound.shp (C:=Z6b) (fn:=Try.f21) (by kernel_rfl) (c:=bodyOf Try.f21) (by kernel_rfl) (by decide) (ctxOK mixed tbl_ok rfl trivial trivial) (SumOK.of trivial) (by kernel_rfl) Zaz Zd8 rfl (by decide) (by decide) rfl (by decide) rfl Z8 (fun x=>by kernel_rfl)
abbrev Zaw:Shape:={ sl:=[(12,(.ptr 0 [])),(40,(.hole (.int .i64)))],bl:=[.var (.sl 1),.row (.int .i64)],ts:=[(.int .i64),y0],pin:=0 }
abbrev Zd5:Shape:={ sl:=sl_1,bl:=[.var (.sl 1),.row (.int .i64)],ts:=[(.int .i64),y0],pin:=1 }
def Z2 (x:T1):Option T1 :=
 bif (fits ((List.length x.2)+(List.length (x.1 :: ([]:List Int))))) then
 some ((0:Int),(x.2++(x.1 :: ([]:List Int))))
 else
 none
def Z68:Ctx:={ tb:=mkTb T2.tbl,fx:=[],sum:=[],nt:=58,pin:=1,nr:=false,ys:=[] }
theorem Z3:YSound Try.prog 458764 [12] (Spec.rnd [12,40] Zaw Zd5 Z2) :=
 YSound.rnd (C:=Z68) (rt:=⟨rfPs (rfOf 12 Try.f7),rfAs (rfOf 12 Try.f7),rfBody (rfOf 12 Try.f7),58⟩) (by kernel_rfl) (ctxOK mixed tbl_ok rfl trivial) (SumOK.of trivial) (SumOK.of trivial) rfl rfl [12] Zaw Zd5 rfl (by decide) (by decide) rfl (fun y=>⟨_,rfl⟩) (of_decide_eq_true (by kernel_rfl)) (of_decide_eq_true (by kernel_rfl)) Z2 (fun x=>by kernel_rfl)
abbrev Za3:Shape:={ sl:=[(0,(.yl 0)),(3,(.ptr 3 [])),(70,(.sl 11)),(71,(.hole (.int .i64))),(72,(.hole (.int .i64)))],bl:=[.lp 458764 [12] (.cons (.ptr 4 []) .nil),.var (.ptr 5 []),.var (.hole y12),.var (.hole (.int .i64)),.var (.sl 12),.var (.pr (.hole y0) (.pr (.mp 6) (.pr (.mp 7) (.pr (.mp 8) (.pr (.mp 9) (.mp 10)))))),.mp y7 (.int .i64),.mp (.int .i64) (.int .i64),.mp (.int .i64) (.int .i64),.mo (.int .i64) (.int .i64),.mp (.int .i64) (.int .i64),.row (.int .i64),.row (.int .i64)],ts:=[(.int .i64),(.int .i64),y12,(.int .i64),y0,y11,(.slice y4),(.slice y4),(.slice y8),(.slice y4),y0,y0],pin:=11 }
abbrev Z9a:List (ETag × Shape):=[(.ret,{ sl:=[],bl:=bl_4,ts:=ts_7,pin:=11 }),(.exit 1,{ sl:=[],bl:=bl_5,ts:=ts_8,pin:=11 })]
def Z4m (x:(Int × Int × T9 × Int × List Int × List (T10) × List (Int × Int) × List (Int × Int) × List T1 × List (Int × Int) × List Int × List Int)):Option ((Int × Int × T9 × Int × List Int × List (T10) × List (Int × Int) × List (Int × Int) × List T1 × List (Int × Int) × List Int × List Int) ⊕ ((Int × T9 × Int × List Int × List (T10) × List (Int × Int) × List (Int × Int) × List T1 × List (Int × Int) × List Int) ⊕ (T9 × Int × List Int × List (T10) × List (Int × Int) × List (Int × Int) × List T1 × List (Int × Int) × List Int))) :=
 bif (decide (x.2.1 < x.1)) then
 bif (inb x.2.1 (List.length x.2.2.2.2.2.2.2.2.2.2.1)) then
 bif (decide ((getAt (0:Int) x.2.2.2.2.2.2.2.2.2.2.1 (toN x.2.1)) > (0:Int))) then
 bif (decide ((getAt (0:Int) x.2.2.2.2.2.2.2.2.2.2.1 (toN x.2.1)) ≤ x.2.2.2.1)) then
 (Z2 ((IntKind.wrap .i64 ((getAt (0:Int) x.2.2.2.2.2.2.2.2.2.2.1 (toN x.2.1)) - (1:Int))),x.2.2.2.2.2.2.2.2.2.2.2)).bind fun r10 =>
 bif (eqI r10.1 (0:Int)) then
 some (.inl (x.1,(IntKind.wrap .i64 (x.2.1+(1:Int))),x.2.2.1,x.2.2.2.1,x.2.2.2.2.1,x.2.2.2.2.2.1,x.2.2.2.2.2.2.1,x.2.2.2.2.2.2.2.1,x.2.2.2.2.2.2.2.2.1,x.2.2.2.2.2.2.2.2.2.1,x.2.2.2.2.2.2.2.2.2.2.1,r10.2))
 else
 some (.inr (.inl (r10.1,x.2.2.1,x.2.2.2.1,x.2.2.2.2.1,x.2.2.2.2.2.1,x.2.2.2.2.2.2.1,x.2.2.2.2.2.2.2.1,x.2.2.2.2.2.2.2.2.1,x.2.2.2.2.2.2.2.2.2.1,r10.2)))
 else
 some (.inl (x.1,(IntKind.wrap .i64 (x.2.1+(1:Int))),x.2.2.1,x.2.2.2.1,x.2.2.2.2.1,x.2.2.2.2.2.1,x.2.2.2.2.2.2.1,x.2.2.2.2.2.2.2.1,x.2.2.2.2.2.2.2.2.1,x.2.2.2.2.2.2.2.2.2.1,x.2.2.2.2.2.2.2.2.2.2.1,x.2.2.2.2.2.2.2.2.2.2.2))
 else
 some (.inl (x.1,(IntKind.wrap .i64 (x.2.1+(1:Int))),x.2.2.1,x.2.2.2.1,x.2.2.2.2.1,x.2.2.2.2.2.1,x.2.2.2.2.2.2.1,x.2.2.2.2.2.2.2.1,x.2.2.2.2.2.2.2.2.1,x.2.2.2.2.2.2.2.2.2.1,x.2.2.2.2.2.2.2.2.2.2.1,x.2.2.2.2.2.2.2.2.2.2.2))
 else
 none
 else
 some (.inr (.inr (x.2.2.1,x.2.2.2.1,x.2.2.2.2.1,x.2.2.2.2.2.1,x.2.2.2.2.2.2.1,x.2.2.2.2.2.2.2.1,x.2.2.2.2.2.2.2.2.1,x.2.2.2.2.2.2.2.2.2.1,x.2.2.2.2.2.2.2.2.2.2.2)))
def Z6d:Ctx:={ tb:=mkTb T2.tbl,fx:=[],sum:=[],nt:=91,pin:=11,nr:=true,ys:=[(458764,[12],Spec.rnd [12,40] { sl:=[(12,(.ptr 0 [])),(40,(.hole (.int .i64)))],bl:=[.var (.sl 1),.row (.int .i64)],ts:=[(.int .i64),(.slice (.int .i64))],pin:=0 } { sl:=[(0,(.hole (.int .i64)))],bl:=[.var (.sl 1),.row (.int .i64)],ts:=[(.int .i64),(.slice (.int .i64))],pin:=1 } Z2)] }
theorem Z4n:CSound Try.prog ⟨91,11,true⟩ (.loop (loopOf 15 Try.f38)) (Yby Za3 Z9a (loop Z4m)) :=
 Y9b (C:=Z6d) (ctxOK mixed tbl_ok rfl trivial ⟨Z3,trivial⟩) (SumOK.of trivial) Za3 Z9a rfl rfl Z4m (fun x=>by kernel_rfl)
abbrev Zax:Shape:={ sl:=[(0,(.ptr 0 [])),(1,(.hole y12))],bl:=bl_3,ts:=[y12,y0,y11,(.slice y4),(.slice y4),(.slice y8),(.slice y4)],pin:=0 }
abbrev Zd6:Shape:={ sl:=sl_1,bl:=bl_3,ts:=[(.int .i64),y0,y11,(.slice y4),(.slice y4),(.slice y8),(.slice y4)],pin:=6 }
def Z4 (x:(T9 × List Int × List (T10) × List (Int × Int) × List (Int × Int) × List T1 × List (Int × Int))):Option (Int × List Int × List (T10) × List (Int × Int) × List (Int × Int) × List T1 × List (Int × Int)) :=
 bif (x.1.2.1 == (5:Int)) then
 some ((@mlook (Int × T0) (Int) (Ty.beq y7) (Ty.zero (.int .i64)) (x.1.2.2.1,x.1.2.2.2.1,false) x.2.2.1),x.2.1,x.2.2.1,x.2.2.2.1,x.2.2.2.2.1,x.2.2.2.2.2.1,x.2.2.2.2.2.2)
 else
 bif (inb x.1.2.2.1 (List.length x.2.1)) then
 some ((@mlook (Int × T0) (Int) (Ty.beq y7) (Ty.zero (.int .i64)) (x.1.2.2.1,(IntKind.wrap .i64 (x.1.2.2.2.1 - (getAt (0:Int) x.2.1 (toN x.1.2.2.1)))),true) x.2.2.1),x.2.1,x.2.2.1,x.2.2.2.1,x.2.2.2.2.1,x.2.2.2.2.2.1,x.2.2.2.2.2.2)
 else
 none
abbrev Zfe:=Spec.shp Zax Zd6 Z4
def Z69:Ctx:={ tb:=mkTb T2.tbl,fx:=[],sum:=[],nt:=37,pin:=6,nr:=true,ys:=[] }
theorem Z5:Sound Try.prog 39 (Zfe) :=
 Sound.shp (C:=Z69) (fn:=Try.f39) (by kernel_rfl) (c:=bodyOf Try.f39) (by kernel_rfl) (by decide) (ctxOK mixed tbl_ok rfl trivial trivial) (SumOK.of trivial) (by kernel_rfl) Zax Zd6 rfl (by decide) (by decide) rfl (by decide) rfl Z4 (fun x=>by kernel_rfl)
abbrev Zb0:Shape:={ sl:=[(0,(.yl 0)),(1,(.ptr 1 [])),(2,(.ptr 2 [])),(3,(.ptr 3 []))],bl:=bl_5,ts:=ts_8,pin:=0 }
abbrev Zd9:Shape:={ sl:=[],bl:=bl_4,ts:=ts_7,pin:=11 }
def Z9 (x:(T9 × Int × List Int × List (T10) × List (Int × Int) × List (Int × Int) × List T1 × List (Int × Int) × List Int)):Option (Int × T9 × Int × List Int × List (T10) × List (Int × Int) × List (Int × Int) × List T1 × List (Int × Int) × List Int) :=
 bif (x.1.2.1 == (0:Int)) then
 (loop Z4m ((((List.length (((@mlook (Int) (Int) (Ty.beq (.int .i64)) (Ty.zero (.int .i64)) x.1.1 x.2.2.2.2.2.2.2.1) :: ([]:List Int))++((IntKind.wrap .i64 (x.1.2.2.2.2+(1:Int))) :: ([]:List Int)))):Nat):Int),(0:Int),x.1,x.2.1,x.2.2.1,x.2.2.2.1,x.2.2.2.2.1,x.2.2.2.2.2.1,x.2.2.2.2.2.2.1,x.2.2.2.2.2.2.2.1,(((@mlook (Int) (Int) (Ty.beq (.int .i64)) (Ty.zero (.int .i64)) x.1.1 x.2.2.2.2.2.2.2.1) :: ([]:List Int))++((IntKind.wrap .i64 (x.1.2.2.2.2+(1:Int))) :: ([]:List Int))),x.2.2.2.2.2.2.2.2)).bind fun r9 =>
 match r9 with
 | .inl y10 =>
 some (y10.1,y10.2.1,y10.2.2.1,y10.2.2.2.1,y10.2.2.2.2.1,y10.2.2.2.2.2.1,y10.2.2.2.2.2.2.1,y10.2.2.2.2.2.2.2.1,y10.2.2.2.2.2.2.2.2.1,y10.2.2.2.2.2.2.2.2.2)
 | .inr y10 =>
 some ((0:Int),y10.1,y10.2.1,y10.2.2.1,y10.2.2.2.1,y10.2.2.2.2.1,y10.2.2.2.2.2.1,y10.2.2.2.2.2.2.1,y10.2.2.2.2.2.2.2.1,y10.2.2.2.2.2.2.2.2)
 else
 bif (x.1.2.1 == (5:Int)) then
 (Z4 (x.1,x.2.2.1,x.2.2.2.1,x.2.2.2.2.1,x.2.2.2.2.2.1,x.2.2.2.2.2.2.1,x.2.2.2.2.2.2.2.1)).bind fun r9 =>
 (loop Z4m ((((List.length (((@mlook (Int) (Int) (Ty.beq (.int .i64)) (Ty.zero (.int .i64)) x.1.1 x.2.2.2.2.2.2.2.1) :: ([]:List Int))++(r9.1 :: ([]:List Int)))):Nat):Int),(0:Int),x.1,x.2.1,r9.2.1,r9.2.2.1,r9.2.2.2.1,r9.2.2.2.2.1,r9.2.2.2.2.2.1,r9.2.2.2.2.2.2,(((@mlook (Int) (Int) (Ty.beq (.int .i64)) (Ty.zero (.int .i64)) x.1.1 x.2.2.2.2.2.2.2.1) :: ([]:List Int))++(r9.1 :: ([]:List Int))),x.2.2.2.2.2.2.2.2)).bind fun r10 =>
 match r10 with
 | .inl y11 =>
 some (y11.1,y11.2.1,y11.2.2.1,y11.2.2.2.1,y11.2.2.2.2.1,y11.2.2.2.2.2.1,y11.2.2.2.2.2.2.1,y11.2.2.2.2.2.2.2.1,y11.2.2.2.2.2.2.2.2.1,y11.2.2.2.2.2.2.2.2.2)
 | .inr y11 =>
 some ((0:Int),y11.1,y11.2.1,y11.2.2.1,y11.2.2.2.1,y11.2.2.2.2.1,y11.2.2.2.2.2.1,y11.2.2.2.2.2.2.1,y11.2.2.2.2.2.2.2.1,y11.2.2.2.2.2.2.2.2)
 else
 bif (x.1.2.1 == (3:Int)) then
 (Z4 (x.1,x.2.2.1,x.2.2.2.1,x.2.2.2.2.1,x.2.2.2.2.2.1,x.2.2.2.2.2.2.1,x.2.2.2.2.2.2.2.1)).bind fun r9 =>
 (loop Z4m ((((List.length (((@mlook (Int) (Int) (Ty.beq (.int .i64)) (Ty.zero (.int .i64)) x.1.1 x.2.2.2.2.2.2.2.1) :: ([]:List Int))++(r9.1 :: ([]:List Int)))):Nat):Int),(0:Int),x.1,x.2.1,r9.2.1,r9.2.2.1,r9.2.2.2.1,r9.2.2.2.2.1,r9.2.2.2.2.2.1,r9.2.2.2.2.2.2,(((@mlook (Int) (Int) (Ty.beq (.int .i64)) (Ty.zero (.int .i64)) x.1.1 x.2.2.2.2.2.2.2.1) :: ([]:List Int))++(r9.1 :: ([]:List Int))),x.2.2.2.2.2.2.2.2)).bind fun r10 =>
 match r10 with
 | .inl y11 =>
 some (y11.1,y11.2.1,y11.2.2.1,y11.2.2.2.1,y11.2.2.2.2.1,y11.2.2.2.2.2.1,y11.2.2.2.2.2.2.1,y11.2.2.2.2.2.2.2.1,y11.2.2.2.2.2.2.2.2.1,y11.2.2.2.2.2.2.2.2.2)
 | .inr y11 =>
 some ((0:Int),y11.1,y11.2.1,y11.2.2.1,y11.2.2.2.1,y11.2.2.2.2.1,y11.2.2.2.2.2.1,y11.2.2.2.2.2.2.1,y11.2.2.2.2.2.2.2.1,y11.2.2.2.2.2.2.2.2)
 else
 bif (x.1.2.1 == (6:Int)) then
 (loop Z4m ((((List.length (((@mlook (Int) (Int) (Ty.beq (.int .i64)) (Ty.zero (.int .i64)) x.1.1 x.2.2.2.2.2.2.2.1) :: ([]:List Int))++((@mlook (Int) (Int) (Ty.beq (.int .i64)) (Ty.zero (.int .i64)) x.1.2.2.1 x.2.2.2.2.1) :: ([]:List Int)))):Nat):Int),(0:Int),x.1,x.2.1,x.2.2.1,x.2.2.2.1,x.2.2.2.2.1,x.2.2.2.2.2.1,x.2.2.2.2.2.2.1,x.2.2.2.2.2.2.2.1,(((@mlook (Int) (Int) (Ty.beq (.int .i64)) (Ty.zero (.int .i64)) x.1.1 x.2.2.2.2.2.2.2.1) :: ([]:List Int))++((@mlook (Int) (Int) (Ty.beq (.int .i64)) (Ty.zero (.int .i64)) x.1.2.2.1 x.2.2.2.2.1) :: ([]:List Int))),x.2.2.2.2.2.2.2.2)).bind fun r9 =>
 match r9 with
 | .inl y10 =>
 some (y10.1,y10.2.1,y10.2.2.1,y10.2.2.2.1,y10.2.2.2.2.1,y10.2.2.2.2.2.1,y10.2.2.2.2.2.2.1,y10.2.2.2.2.2.2.2.1,y10.2.2.2.2.2.2.2.2.1,y10.2.2.2.2.2.2.2.2.2)
 | .inr y10 =>
 some ((0:Int),y10.1,y10.2.1,y10.2.2.1,y10.2.2.2.1,y10.2.2.2.2.1,y10.2.2.2.2.2.1,y10.2.2.2.2.2.2.1,y10.2.2.2.2.2.2.2.1,y10.2.2.2.2.2.2.2.2)
 else
 bif (x.1.2.1 == (11:Int)) then
 bif (@mhas (Int) (List Int) (Ty.beq (.int .i64)) x.1.2.2.1 x.2.2.2.2.2.2.1) then
 bif (fits ((List.length ((@mlook (Int) (Int) (Ty.beq (.int .i64)) (Ty.zero (.int .i64)) x.1.1 x.2.2.2.2.2.2.2.1) :: ([]:List Int)))+(List.length (@mlook (Int) (List Int) (Ty.beq (.int .i64)) [] x.1.2.2.1 x.2.2.2.2.2.2.1)))) then
 (loop Z4m ((((List.length (((@mlook (Int) (Int) (Ty.beq (.int .i64)) (Ty.zero (.int .i64)) x.1.1 x.2.2.2.2.2.2.2.1) :: ([]:List Int))++(@mlook (Int) (List Int) (Ty.beq (.int .i64)) [] x.1.2.2.1 x.2.2.2.2.2.2.1))):Nat):Int),(0:Int),x.1,x.2.1,x.2.2.1,x.2.2.2.1,x.2.2.2.2.1,x.2.2.2.2.2.1,(mset x.2.2.2.2.2.2.1 (@mpos (Int) (List Int) (Ty.beq (.int .i64)) x.1.2.2.1 x.2.2.2.2.2.2.1) (@mlook (Int) (List Int) (Ty.beq (.int .i64)) [] x.1.2.2.1 x.2.2.2.2.2.2.1)),x.2.2.2.2.2.2.2.1,(((@mlook (Int) (Int) (Ty.beq (.int .i64)) (Ty.zero (.int .i64)) x.1.1 x.2.2.2.2.2.2.2.1) :: ([]:List Int))++(@mlook (Int) (List Int) (Ty.beq (.int .i64)) [] x.1.2.2.1 x.2.2.2.2.2.2.1)),x.2.2.2.2.2.2.2.2)).bind fun r9 =>
 match r9 with
 | .inl y10 =>
 some (y10.1,y10.2.1,y10.2.2.1,y10.2.2.2.1,y10.2.2.2.2.1,y10.2.2.2.2.2.1,y10.2.2.2.2.2.2.1,y10.2.2.2.2.2.2.2.1,y10.2.2.2.2.2.2.2.2.1,y10.2.2.2.2.2.2.2.2.2)
 | .inr y10 =>
 some ((0:Int),y10.1,y10.2.1,y10.2.2.1,y10.2.2.2.1,y10.2.2.2.2.1,y10.2.2.2.2.2.1,y10.2.2.2.2.2.2.1,y10.2.2.2.2.2.2.2.1,y10.2.2.2.2.2.2.2.2)
 else
 none
 else
 (loop Z4m ((((List.length (((@mlook (Int) (Int) (Ty.beq (.int .i64)) (Ty.zero (.int .i64)) x.1.1 x.2.2.2.2.2.2.2.1) :: ([]:List Int))++([]:List Int))):Nat):Int),(0:Int),x.1,x.2.1,x.2.2.1,x.2.2.2.1,x.2.2.2.2.1,x.2.2.2.2.2.1,x.2.2.2.2.2.2.1,x.2.2.2.2.2.2.2.1,(((@mlook (Int) (Int) (Ty.beq (.int .i64)) (Ty.zero (.int .i64)) x.1.1 x.2.2.2.2.2.2.2.1) :: ([]:List Int))++([]:List Int)),x.2.2.2.2.2.2.2.2)).bind fun r9 =>
 match r9 with
 | .inl y10 =>
 some (y10.1,y10.2.1,y10.2.2.1,y10.2.2.2.1,y10.2.2.2.2.1,y10.2.2.2.2.2.1,y10.2.2.2.2.2.2.1,y10.2.2.2.2.2.2.2.1,y10.2.2.2.2.2.2.2.2.1,y10.2.2.2.2.2.2.2.2.2)
 | .inr y10 =>
 some ((0:Int),y10.1,y10.2.1,y10.2.2.1,y10.2.2.2.1,y10.2.2.2.2.1,y10.2.2.2.2.2.1,y10.2.2.2.2.2.2.1,y10.2.2.2.2.2.2.2.1,y10.2.2.2.2.2.2.2.2)
 else
 bif (x.1.2.1 == (15:Int)) then
 (loop Z4m ((((List.length (((@mlook (Int) (Int) (Ty.beq (.int .i64)) (Ty.zero (.int .i64)) x.1.1 x.2.2.2.2.2.2.2.1) :: ([]:List Int))++((@mlook (Int) (Int) (Ty.beq (.int .i64)) (Ty.zero (.int .i64)) x.1.2.2.1 x.2.2.2.2.2.1) :: ([]:List Int)))):Nat):Int),(0:Int),x.1,x.2.1,x.2.2.1,x.2.2.2.1,x.2.2.2.2.1,x.2.2.2.2.2.1,x.2.2.2.2.2.2.1,x.2.2.2.2.2.2.2.1,(((@mlook (Int) (Int) (Ty.beq (.int .i64)) (Ty.zero (.int .i64)) x.1.1 x.2.2.2.2.2.2.2.1) :: ([]:List Int))++((@mlook (Int) (Int) (Ty.beq (.int .i64)) (Ty.zero (.int .i64)) x.1.2.2.1 x.2.2.2.2.2.1) :: ([]:List Int))),x.2.2.2.2.2.2.2.2)).bind fun r9 =>
 match r9 with
 | .inl y10 =>
 some (y10.1,y10.2.1,y10.2.2.1,y10.2.2.2.1,y10.2.2.2.2.1,y10.2.2.2.2.2.1,y10.2.2.2.2.2.2.1,y10.2.2.2.2.2.2.2.1,y10.2.2.2.2.2.2.2.2.1,y10.2.2.2.2.2.2.2.2.2)
 | .inr y10 =>
 some ((0:Int),y10.1,y10.2.1,y10.2.2.1,y10.2.2.2.1,y10.2.2.2.2.1,y10.2.2.2.2.2.1,y10.2.2.2.2.2.2.1,y10.2.2.2.2.2.2.2.1,y10.2.2.2.2.2.2.2.2)
 else
 (loop Z4m ((((List.length ((@mlook (Int) (Int) (Ty.beq (.int .i64)) (Ty.zero (.int .i64)) x.1.1 x.2.2.2.2.2.2.2.1) :: ([]:List Int))):Nat):Int),(0:Int),x.1,x.2.1,x.2.2.1,x.2.2.2.1,x.2.2.2.2.1,x.2.2.2.2.2.1,x.2.2.2.2.2.2.1,x.2.2.2.2.2.2.2.1,((@mlook (Int) (Int) (Ty.beq (.int .i64)) (Ty.zero (.int .i64)) x.1.1 x.2.2.2.2.2.2.2.1) :: ([]:List Int)),x.2.2.2.2.2.2.2.2)).bind fun r9 =>
 match r9 with
 | .inl y10 =>
 some (y10.1,y10.2.1,y10.2.2.1,y10.2.2.2.1,y10.2.2.2.2.1,y10.2.2.2.2.2.1,y10.2.2.2.2.2.2.1,y10.2.2.2.2.2.2.2.1,y10.2.2.2.2.2.2.2.2.1,y10.2.2.2.2.2.2.2.2.2)
 | .inr y10 =>
 some ((0:Int),y10.1,y10.2.1,y10.2.2.1,y10.2.2.2.1,y10.2.2.2.2.1,y10.2.2.2.2.2.1,y10.2.2.2.2.2.2.1,y10.2.2.2.2.2.2.2.1,y10.2.2.2.2.2.2.2.2)
abbrev Zfh:=Spec.shp Zb0 Zd9 Z9
def Z6c:Ctx:={ tb:=mkTb T2.tbl,fx:=[(39,[],Zfe)],sum:=[(0,15,Yby Za3 Z9a (loop Z4m))],nt:=91,pin:=11,nr:=true,ys:=[(458764,[12],Spec.rnd [12,40] Zaw Zd5 Z2)] }
theorem Za:Sound Try.prog 38 (Zfh) :=
 Sound.shp (C:=Z6c) (fn:=Try.f38) (by kernel_rfl) (c:=bodyOf Try.f38) (by kernel_rfl) (by decide) (ctxOK mixed tbl_ok rfl ⟨Z5,trivial⟩ ⟨Z3,trivial⟩) (SumOK.of ⟨(Ybz (d:=.loop (loopOf 15 Try.f38)) (by kernel_rfl) Z4n),trivial⟩) (by kernel_rfl) Zb0 Zd9 rfl (by decide) (by decide) rfl (by decide) rfl Z9 (fun x=>by kernel_rfl)
abbrev Zay:Shape:={ sl:=sl_4,bl:=bl_3,ts:=ts_6,pin:=0 }
abbrev Zd7:Shape:={ sl:=[],bl:=bl_3,ts:=ts_5,pin:=6 }
def Z6 (x:(Int × T9 × List Int × List (T10) × List (Int × Int) × List (Int × Int) × List T1 × List (Int × Int))):Option (List Int × List (T10) × List (Int × Int) × List (Int × Int) × List T1 × List (Int × Int)) :=
 bif (x.2.1.2.1 == (7:Int)) then
 some (x.2.2.1,x.2.2.2.1,(@mput (Int) (Int) (Ty.beq (.int .i64)) x.2.1.2.2.1 (IntKind.wrap .i64 (x.1+(1:Int))) x.2.2.2.2.1),x.2.2.2.2.2.1,x.2.2.2.2.2.2.1,(@mput (Int) (Int) (Ty.beq (.int .i64)) x.2.1.1 (IntKind.wrap .i64 (x.1+(1:Int))) x.2.2.2.2.2.2.2))
 else
 bif (x.2.1.2.1 == (14:Int)) then
 some (x.2.2.1,x.2.2.2.1,x.2.2.2.2.1,(@mput (Int) (Int) (Ty.beq (.int .i64)) x.2.1.2.2.1 (IntKind.wrap .i64 (x.1+(1:Int))) x.2.2.2.2.2.1),x.2.2.2.2.2.2.1,(@mput (Int) (Int) (Ty.beq (.int .i64)) x.2.1.1 (IntKind.wrap .i64 (x.1+(1:Int))) x.2.2.2.2.2.2.2))
 else
 bif (x.2.1.2.1 == (12:Int)) then
 bif (@mhas (Int) (List Int) (Ty.beq (.int .i64)) x.2.1.2.2.1 x.2.2.2.2.2.2.1) then
 bif (fits ((List.length (@mlook (Int) (List Int) (Ty.beq (.int .i64)) [] x.2.1.2.2.1 x.2.2.2.2.2.2.1))+(List.length ((IntKind.wrap .i64 (x.1+(1:Int))) :: ([]:List Int))))) then
 bif (Nat.beq (@mpos (Int) (List Int) (Ty.beq (.int .i64)) x.2.1.2.2.1 x.2.2.2.2.2.2.1) (@mpos (Int) (List Int) (Ty.beq (.int .i64)) x.2.1.2.2.1 x.2.2.2.2.2.2.1)) then
 some (x.2.2.1,x.2.2.2.1,x.2.2.2.2.1,x.2.2.2.2.2.1,(@mput (Int) (List Int) (Ty.beq (.int .i64)) x.2.1.2.2.1 ((@mlook (Int) (List Int) (Ty.beq (.int .i64)) [] x.2.1.2.2.1 x.2.2.2.2.2.2.1)++((IntKind.wrap .i64 (x.1+(1:Int))) :: ([]:List Int))) x.2.2.2.2.2.2.1),(@mput (Int) (Int) (Ty.beq (.int .i64)) x.2.1.1 (IntKind.wrap .i64 (x.1+(1:Int))) x.2.2.2.2.2.2.2))
 else
 none
 else
 none
 else
 some (x.2.2.1,x.2.2.2.1,x.2.2.2.2.1,x.2.2.2.2.2.1,(@mput (Int) (List Int) (Ty.beq (.int .i64)) x.2.1.2.2.1 ((IntKind.wrap .i64 (x.1+(1:Int))) :: ([]:List Int)) x.2.2.2.2.2.2.1),(@mput (Int) (Int) (Ty.beq (.int .i64)) x.2.1.1 (IntKind.wrap .i64 (x.1+(1:Int))) x.2.2.2.2.2.2.2))
 else
 some (x.2.2.1,x.2.2.2.1,x.2.2.2.2.1,x.2.2.2.2.2.1,x.2.2.2.2.2.2.1,(@mput (Int) (Int) (Ty.beq (.int .i64)) x.2.1.1 (IntKind.wrap .i64 (x.1+(1:Int))) x.2.2.2.2.2.2.2))
abbrev Zff:=Spec.shp Zay Zd7 Z6
def Z6a:Ctx:={ tb:=mkTb T2.tbl,fx:=[],sum:=[],nt:=55,pin:=6,nr:=true,ys:=[] }
theorem Z7:Sound Try.prog 24 (Zff) :=
 Sound.shp (C:=Z6a) (fn:=Try.f24) (by kernel_rfl) (c:=bodyOf Try.f24) (by kernel_rfl) (by decide) (ctxOK mixed tbl_ok rfl trivial trivial) (SumOK.of trivial) (by kernel_rfl) Zay Zd7 rfl (by decide) (by decide) rfl (by decide) rfl Z6 (fun x=>by kernel_rfl)
abbrev Za2:Shape:={ sl:=[(8,(.ptr 0 [])),(9,(.sl 6)),(29,(.hole y13)),(30,(.hole (.int .i64))),(31,(.hole (.int .i64)))],bl:=[.var (.pr (.hole y0) (.pr (.mp 1) (.pr (.mp 2) (.pr (.mp 3) (.pr (.mp 4) (.mp 5)))))),.mp y7 (.int .i64),.mp (.int .i64) (.int .i64),.mp (.int .i64) (.int .i64),.mo (.int .i64) (.int .i64),.mp (.int .i64) (.int .i64),.row y0],ts:=[y13,(.int .i64),(.int .i64),y0,y11,(.slice y4),(.slice y4),(.slice y8),(.slice y4),(.slice y0)],pin:=0 }
abbrev Z99:List (ETag × Shape):=[(.ret,{ sl:=[],bl:=[],ts:=[],pin:=0 }),(.exit 0,{ sl:=[(9,(.sl 0))],bl:=[.row y0],ts:=[(.slice y0)],pin:=0 })]
def Z4k (x:(List (T9) × Int × Int × List Int × List (T10) × List (Int × Int) × List (Int × Int) × List T1 × List (Int × Int) × List (List Int))):Option ((List (T9) × Int × Int × List Int × List (T10) × List (Int × Int) × List (Int × Int) × List T1 × List (Int × Int) × List (List Int)) ⊕ (Unit ⊕ (List (List Int)))) :=
 bif (decide (x.2.2.1 < x.2.1)) then
 bif (inb x.2.2.1 (List.length x.1)) then
 (Z8 (x.2.2.1,(getAt ((0:Int),(0:Int),(0:Int),(0:Int),(0:Int)) x.1 (toN x.2.2.1)),x.2.2.2.1,x.2.2.2.2.1,x.2.2.2.2.2.1,x.2.2.2.2.2.2.1,x.2.2.2.2.2.2.2.1,x.2.2.2.2.2.2.2.2.1)).bind fun r7 =>
 (Z9 (r7.2.2.2.2.2.2.1,r7.2.2.2.2.2.2.2,r7.1,r7.2.1,r7.2.2.1,r7.2.2.2.1,r7.2.2.2.2.1,r7.2.2.2.2.2.1,([]:List Int))).bind fun r8 =>
 bif (eqI r8.1 (0:Int)) then
 bif (fits (List.length r8.2.2.2.2.2.2.2.2.2)) then
 bif (fits (List.length (Yey r8.2.2.2.2.2.2.2.2.2 (0:Nat) (List.length r8.2.2.2.2.2.2.2.2.2)))) then
 bif (fits ((List.length x.2.2.2.2.2.2.2.2.2)+(List.length ((Y3w (Yey r8.2.2.2.2.2.2.2.2.2 (0:Nat) (List.length r8.2.2.2.2.2.2.2.2.2))) :: ([]:List (List Int)))))) then
 (Z6 (x.2.2.1,(getAt ((0:Int),(0:Int),(0:Int),(0:Int),(0:Int)) x.1 (toN x.2.2.1)),r8.2.2.2.1,r8.2.2.2.2.1,r8.2.2.2.2.2.1,r8.2.2.2.2.2.2.1,r8.2.2.2.2.2.2.2.1,r8.2.2.2.2.2.2.2.2.1)).bind fun r9 =>
 some (.inl (x.1,x.2.1,(IntKind.wrap .i64 (x.2.2.1+(1:Int))),r9.1,r9.2.1,r9.2.2.1,r9.2.2.2.1,r9.2.2.2.2.1,r9.2.2.2.2.2,(x.2.2.2.2.2.2.2.2.2++((Y3w (Yey r8.2.2.2.2.2.2.2.2.2 (0:Nat) (List.length r8.2.2.2.2.2.2.2.2.2))) :: ([]:List (List Int))))))
 else
 none
 else
 none
 else
 none
 else
 bif (eqI r8.1 (1:Int)) then
 some (.inr (.inl ()))
 else
 none
 else
 none
 else
 some (.inr (.inr x.2.2.2.2.2.2.2.2.2))
def Z67:Ctx:={ tb:=mkTb T2.tbl,fx:=[(19,[],Zgo),(20,[],Zfi),(21,[],Zfg),(22,[2000000],Yf0),(23,[2000000],Y3z),(24,[],Zff)],sum:=[(3,12,Ycd (rfF (rfOf 12 Try.f7)) 458764 [12] [] [(38,[1458764],Zfh)])],nt:=58,pin:=0,nr:=true,ys:=[] }
theorem Z4l:CSound Try.prog ⟨58,0,true⟩ (.loop (loopOf 8 Try.f7)) (Yby Za2 Z99 (loop Z4k)) :=
 Y9b (C:=Z67) (ctxOK mixed tbl_ok rfl ⟨Z2r,Zd,Zb,Y7,Y6,Z7,trivial⟩ trivial) (SumOK.of ⟨(Ybz (d:=rfOf 12 Try.f7) (by kernel_rfl) (Ycf (c:=rfOf 12 Try.f7) rfl (by kernel_rfl) Za [12] [])),trivial⟩) Za2 Z99 rfl rfl Z4k (fun x=>by kernel_rfl)
abbrev Zav:Shape:={ sl:=sl_5,bl:=[],ts:=[y0,y13],pin:=0 }
abbrev Zd4:Shape:={ sl:=[(0,(.hole (.slice y0))),(1,(.hole (.int .i64)))],bl:=[],ts:=[(.slice y0),(.int .i64)],pin:=0 }
def Z0 (x:T14):Option (List (List Int) × Int) :=
 (Z2o (x.1,x.2)).bind fun r4 =>
 bif (r4.2 != (0:Int)) then
 some (([]:List (List Int)),(1:Int))
 else
 bif (decide (r4.1 ≥ (0:Int))) then
 some (([]:List (List Int)),(1:Int))
 else
 (Zc (x.1,x.2)).bind fun r5 =>
 (loop Z4k (x.2,(((List.length x.2):Nat):Int),(0:Int),r5.1,r5.2.1,r5.2.2.1,r5.2.2.2.1,r5.2.2.2.2.1,r5.2.2.2.2.2,([]:List (List Int)))).bind fun r6 =>
 match r6 with
 | .inl y7 =>
 none
 | .inr y7 =>
 some (y7,(0:Int))
abbrev Zfd:=Spec.shp Zav Zd4 Z0
def Z66:Ctx:={ tb:=mkTb T2.tbl,fx:=[(19,[],Zgo),(20,[],Zfi),(21,[],Zfg),(22,[2000000],Yf0),(23,[2000000],Y3z),(24,[],Zff)],sum:=[(3,12,Ycd (rfF (rfOf 12 Try.f7)) 458764 [12] [] [(38,[1458764],Zfh)]),(0,8,Yby Za2 Z99 (loop Z4k))],nt:=58,pin:=0,nr:=true,ys:=[] }
theorem Z1:Sound Try.prog 7 (Zfd) :=
 Sound.shp (C:=Z66) (fn:=Try.f7) (by kernel_rfl) (c:=bodyOf Try.f7) (by kernel_rfl) (by decide) (ctxOK mixed tbl_ok rfl ⟨Z2r,Zd,Zb,Y7,Y6,Z7,trivial⟩ trivial) (SumOK.of ⟨(Ybz (d:=rfOf 12 Try.f7) (by kernel_rfl) (Ycf (c:=rfOf 12 Try.f7) rfl (by kernel_rfl) Za [12] [])),(Ybz (d:=.loop (loopOf 8 Try.f7)) (by kernel_rfl) Z4l),trivial⟩) (by kernel_rfl) Zav Zd4 rfl (by decide) (by decide) rfl (by decide) rfl Z0 (fun x=>by kernel_rfl)
abbrev Zc5:Shape:={ sl:=[],bl:=[],ts:=[],pin:=0 }
abbrev Zee:Shape:={ sl:=[(0,(.fn 45 .nil (.cons (.ptr 0 []) .nil)))],bl:=[.var .nl],ts:=[],pin:=0 }
def Z2k (x:Unit):Option Unit :=
 some ()
abbrev Zgm:=Spec.shp Zc5 Zee Z2k
def Z87:Ctx:={ tb:=mkTb T2.tbl,fx:=[],sum:=[],nt:=3,pin:=0,nr:=true,ys:=[] }
theorem Z2n:Sound Try.prog 28 (Zgm) :=
 Sound.shp (C:=Z87) (fn:=Try.f28) (by kernel_rfl) (c:=bodyOf Try.f28) (by kernel_rfl) (by decide) (ctxOK mixed tbl_ok rfl trivial trivial) (SumOK.of trivial) (by kernel_rfl) Zc5 Zee rfl (by decide) (by decide) rfl (by decide) rfl Z2k (fun x=>by kernel_rfl)
abbrev Zcw:Shape:={ sl:=sl_1,bl:=[],ts:=ts_0,pin:=0 }
abbrev Zf5:Shape:={ sl:=sl_0,bl:=[],ts:=[.bool],pin:=0 }
def Z43 (x:(Int)):Option (Bool) :=
 bif (decide (x ≥ (0:Int))) then
 some (decide (x ≤ (1099511627776:Int)))
 else
 some false
abbrev Zhd:=Spec.shp Zcw Zf5 Z43
def Z90:Ctx:={ tb:=mkTb T2.tbl,fx:=[],sum:=[],nt:=9,pin:=0,nr:=true,ys:=[] }
theorem Z44:Sound Try.prog 104 (Zhd) :=
 Sound.shp (C:=Z90) (fn:=Try.f104) (by kernel_rfl) (c:=bodyOf Try.f104) (by kernel_rfl) (by decide) (ctxOK mixed tbl_ok rfl trivial trivial) (SumOK.of trivial) (by kernel_rfl) Zcw Zf5 rfl (by decide) (by decide) rfl (by decide) rfl Z43 (fun x=>by kernel_rfl)
abbrev Zcz:Shape:={ sl:=[(0,(.hole (.int .i64))),(1,(.ptr 0 []))],bl:=bl_6,ts:=ts_0,pin:=0 }
abbrev Zf8:Shape:={ sl:=sl_0,bl:=bl_6,ts:=[.bool],pin:=1 }
def Z49 (x:(Int)):Option (Bool) :=
 (Z43 x).bind fun r19 =>
 some (Bool.not r19)
abbrev Zhg:=Spec.shp Zcz Zf8 Z49
def Z93:Ctx:={ tb:=mkTb T2.tbl,fx:=[(104,[],Zhd)],sum:=[],nt:=8,pin:=1,nr:=true,ys:=[] }
theorem Z4a:Sound Try.prog 107 (Zhg) :=
 Sound.shp (C:=Z93) (fn:=Try.f107) (by kernel_rfl) (c:=bodyOf Try.f107) (by kernel_rfl) (by decide) (ctxOK mixed tbl_ok rfl ⟨Z44,trivial⟩ trivial) (SumOK.of trivial) (by kernel_rfl) Zcz Zf8 rfl (by decide) (by decide) rfl (by decide) rfl Z49 (fun x=>by kernel_rfl)
abbrev Zao:Shape:={ sl:=[(0,(.hole y0)),(1,(.fn 107 .nil (.cons (.ptr 0 []) .nil))),(7,(.hole (.int .i64))),(8,(.hole (.int .i64)))],bl:=bl_6,ts:=[y0,(.int .i64),(.int .i64)],pin:=1 }
abbrev Z9v:List (ETag × Shape):=[(.ret,{ sl:=[(4,(.hole (.int .i64)))],bl:=bl_6,ts:=ts_0,pin:=1 }),(.exit 0,{ sl:=[],bl:=bl_6,ts:=[],pin:=1 })]
def Z5s (x:T6):Option (T6 ⊕ ((Int) ⊕ Unit)) :=
 bif (decide (x.2.2 < x.2.1)) then
 bif (inb x.2.2 (List.length x.1)) then
 (Z49 (getAt (0:Int) x.1 (toN x.2.2))).bind fun r18 =>
 bif r18 then
 some (.inr (.inl x.2.2))
 else
 some (.inl (x.1,x.2.1,(IntKind.wrap .i64 (x.2.2+(1:Int)))))
 else
 none
 else
 some (.inr (.inr ()))
def Z80:Ctx:={ tb:=mkTb T2.tbl,fx:=[(107,[],Spec.thin (Zhg))],sum:=[],nt:=19,pin:=1,nr:=true,ys:=[] }
theorem Z5t:CSound Try.prog ⟨19,1,true⟩ (.loop (loopOf 3 Try.f52)) (Yby Zao Z9v (loop Z5s)) :=
 Y9b (C:=Z80) (ctxOK mixed tbl_ok rfl ⟨Z4a.thin,trivial⟩ trivial) (SumOK.of trivial) Zao Z9v rfl rfl Z5s (fun x=>by kernel_rfl)
abbrev Zc1:Shape:={ sl:=[(0,(.hole y0)),(1,(.fn 107 .nil (.cons (.ptr 0 []) .nil)))],bl:=bl_6,ts:=[y0],pin:=0 }
abbrev Zea:Shape:={ sl:=sl_1,bl:=bl_6,ts:=ts_0,pin:=1 }
def Z2c (x:(List Int)):Option (Int) :=
 (loop Z5s (x,(((List.length x):Nat):Int),(0:Int))).bind fun r17 =>
 match r17 with
 | .inl y18 =>
 some y18
 | .inr y18 =>
 some (Int.negSucc 0)
abbrev Zgi:=Spec.shp Zc1 Zea Z2c
def Z7z:Ctx:={ tb:=mkTb T2.tbl,fx:=[(107,[],Spec.thin (Zhg))],sum:=[(0,3,Yby Zao Z9v (loop Z5s))],nt:=19,pin:=1,nr:=true,ys:=[] }
theorem Z2d:Sound Try.prog 52 (Zgi) :=
 Sound.shp (C:=Z7z) (fn:=Try.f52) (by kernel_rfl) (c:=bodyOf Try.f52) (by kernel_rfl) (by decide) (ctxOK mixed tbl_ok rfl ⟨Z4a.thin,trivial⟩ trivial) (SumOK.of ⟨(Ybz (d:=.loop (loopOf 3 Try.f52)) (by kernel_rfl) Z5t),trivial⟩) (by kernel_rfl) Zc1 Zea rfl (by decide) (by decide) rfl (by decide) rfl Z2c (fun x=>by kernel_rfl)
abbrev Zby:Shape:={ sl:=[(0,(.hole y0)),(1,(.fn 107 .nil (.cons (.ptr 0 []) .nil)))],bl:=bl_6,ts:=[y0],pin:=0 }
abbrev Ze7:Shape:={ sl:=sl_0,bl:=bl_6,ts:=[.bool],pin:=1 }
def Z26 (x:(List Int)):Option (Bool) :=
 (Z2c x).bind fun r16 =>
 some (decide (r16 ≥ (0:Int)))
abbrev Zgf:=Spec.shp Zby Ze7 Z26
def Z7u:Ctx:={ tb:=mkTb T2.tbl,fx:=[(52,[107],Spec.thin (Zgi))],sum:=[],nt:=9,pin:=1,nr:=true,ys:=[] }
theorem Z27:Sound Try.prog 32 (Zgf) :=
 Sound.shp (C:=Z7u) (fn:=Try.f32) (by kernel_rfl) (c:=bodyOf Try.f32) (by kernel_rfl) (by decide) (ctxOK mixed tbl_ok rfl ⟨Z2d.thin,trivial⟩ trivial) (SumOK.of trivial) (by kernel_rfl) Zby Ze7 rfl (by decide) (by decide) rfl (by decide) rfl Z26 (fun x=>by kernel_rfl)
abbrev Zd0:Shape:={ sl:=[(0,(.fn 104 .nil .nil)),(1,(.hole y0))],bl:=[],ts:=[y0],pin:=0 }
abbrev Zf9:Shape:={ sl:=sl_0,bl:=[],ts:=[.bool],pin:=0 }
def Z4c (x:(List Int)):Option (Bool) :=
 (Z26 x).bind fun r15 =>
 some (Bool.not r15)
abbrev Zhh:=Spec.shp Zd0 Zf9 Z4c
def Z94:Ctx:={ tb:=mkTb T2.tbl,fx:=[(32,[107],Spec.thin (Zgf))],sum:=[],nt:=9,pin:=0,nr:=true,ys:=[] }
theorem Z4d:Sound Try.prog 103 (Zhh) :=
 Sound.shp (C:=Z94) (fn:=Try.f103) (by kernel_rfl) (c:=bodyOf Try.f103) (by kernel_rfl) (by decide) (ctxOK mixed tbl_ok rfl ⟨Z27.thin,trivial⟩ trivial) (SumOK.of trivial) (by kernel_rfl) Zd0 Zf9 rfl (by decide) (by decide) rfl (by decide) rfl Z4c (fun x=>by kernel_rfl)
abbrev Zcv:Shape:={ sl:=sl_6,bl:=[],ts:=[y0],pin:=0 }
abbrev Zf4:Shape:={ sl:=sl_0,bl:=[],ts:=[.bool],pin:=0 }
def Z42 (x:(List Int)):Option (Bool) :=
 bif (decide ((((List.length x):Nat):Int) ≤ (16:Int))) then
 (Z4c x).bind fun r14 =>
 some r14
 else
 some false
abbrev Zhc:=Spec.shp Zcv Zf4 Z42
def Z8z:Ctx:={ tb:=mkTb T2.tbl,fx:=[(103,[104],Zhh)],sum:=[],nt:=10,pin:=0,nr:=true,ys:=[] }
theorem Z45:Sound Try.prog 84 (Zhc) :=
 Sound.shp (C:=Z8z) (fn:=Try.f84) (by kernel_rfl) (c:=bodyOf Try.f84) (by kernel_rfl) (by decide) (ctxOK mixed tbl_ok rfl ⟨Z4d,trivial⟩ trivial) (SumOK.of trivial) (by kernel_rfl) Zcv Zf4 rfl (by decide) (by decide) rfl (by decide) rfl Z42 (fun x=>by kernel_rfl)
abbrev Zcy:Shape:={ sl:=[(0,(.hole y0)),(1,(.ptr 0 []))],bl:=bl_7,ts:=[y0],pin:=0 }
abbrev Zf7:Shape:={ sl:=sl_0,bl:=bl_7,ts:=[.bool],pin:=1 }
def Z48 (x:(List Int)):Option (Bool) :=
 (Z42 x).bind fun r13 =>
 some (Bool.not r13)
abbrev Zhf:=Spec.shp Zcy Zf7 Z48
def Z92:Ctx:={ tb:=mkTb T2.tbl,fx:=[(84,[],Zhc)],sum:=[],nt:=8,pin:=1,nr:=true,ys:=[] }
theorem Z4b:Sound Try.prog 102 (Zhf) :=
 Sound.shp (C:=Z92) (fn:=Try.f102) (by kernel_rfl) (c:=bodyOf Try.f102) (by kernel_rfl) (by decide) (ctxOK mixed tbl_ok rfl ⟨Z45,trivial⟩ trivial) (SumOK.of trivial) (by kernel_rfl) Zcy Zf7 rfl (by decide) (by decide) rfl (by decide) rfl Z48 (fun x=>by kernel_rfl)
abbrev Zam:Shape:={ sl:=[(0,(.hole (.slice y0))),(1,(.fn 102 .nil (.cons (.ptr 0 []) .nil))),(7,(.hole (.int .i64))),(8,(.hole (.int .i64)))],bl:=bl_7,ts:=[(.slice y0),(.int .i64),(.int .i64)],pin:=1 }
abbrev Z9t:List (ETag × Shape):=[(.ret,{ sl:=[(4,(.hole (.int .i64)))],bl:=bl_7,ts:=ts_0,pin:=1 }),(.exit 0,{ sl:=[],bl:=bl_7,ts:=[],pin:=1 })]
def Z5o (x:(List (List Int) × Int × Int)):Option ((List (List Int) × Int × Int) ⊕ ((Int) ⊕ Unit)) :=
 bif (decide (x.2.2 < x.2.1)) then
 bif (inb x.2.2 (List.length x.1)) then
 (Z48 (getAt ([]:List Int) x.1 (toN x.2.2))).bind fun r12 =>
 bif r12 then
 some (.inr (.inl x.2.2))
 else
 some (.inl (x.1,x.2.1,(IntKind.wrap .i64 (x.2.2+(1:Int)))))
 else
 none
 else
 some (.inr (.inr ()))
def Z7w:Ctx:={ tb:=mkTb T2.tbl,fx:=[(102,[],Spec.thin (Zhf))],sum:=[],nt:=19,pin:=1,nr:=true,ys:=[] }
theorem Z5p:CSound Try.prog ⟨19,1,true⟩ (.loop (loopOf 3 Try.f106)) (Yby Zam Z9t (loop Z5o)) :=
 Y9b (C:=Z7w) (ctxOK mixed tbl_ok rfl ⟨Z4b.thin,trivial⟩ trivial) (SumOK.of trivial) Zam Z9t rfl rfl Z5o (fun x=>by kernel_rfl)
abbrev Zbz:Shape:={ sl:=sl_7,bl:=bl_7,ts:=[(.slice y0)],pin:=0 }
abbrev Ze8:Shape:={ sl:=sl_1,bl:=bl_7,ts:=ts_0,pin:=1 }
def Z28 (x:(List (List Int))):Option (Int) :=
 (loop Z5o (x,(((List.length x):Nat):Int),(0:Int))).bind fun r11 =>
 match r11 with
 | .inl y12 =>
 some y12
 | .inr y12 =>
 some (Int.negSucc 0)
abbrev Zgg:=Spec.shp Zbz Ze8 Z28
def Z7v:Ctx:={ tb:=mkTb T2.tbl,fx:=[(102,[],Spec.thin (Zhf))],sum:=[(0,3,Yby Zam Z9t (loop Z5o))],nt:=19,pin:=1,nr:=true,ys:=[] }
theorem Z29:Sound Try.prog 106 (Zgg) :=
 Sound.shp (C:=Z7v) (fn:=Try.f106) (by kernel_rfl) (c:=bodyOf Try.f106) (by kernel_rfl) (by decide) (ctxOK mixed tbl_ok rfl ⟨Z4b.thin,trivial⟩ trivial) (SumOK.of ⟨(Ybz (d:=.loop (loopOf 3 Try.f106)) (by kernel_rfl) Z5p),trivial⟩) (by kernel_rfl) Zbz Ze8 rfl (by decide) (by decide) rfl (by decide) rfl Z28 (fun x=>by kernel_rfl)
abbrev Zbw:Shape:={ sl:=sl_7,bl:=bl_7,ts:=[(.slice y0)],pin:=0 }
abbrev Ze5:Shape:={ sl:=sl_0,bl:=bl_7,ts:=[.bool],pin:=1 }
def Z22 (x:(List (List Int))):Option (Bool) :=
 (Z28 x).bind fun r10 =>
 some (decide (r10 ≥ (0:Int)))
abbrev Zgd:=Spec.shp Zbw Ze5 Z22
def Z7s:Ctx:={ tb:=mkTb T2.tbl,fx:=[(106,[102],Spec.thin (Zgg))],sum:=[],nt:=9,pin:=1,nr:=true,ys:=[] }
theorem Z23:Sound Try.prog 101 (Zgd) :=
 Sound.shp (C:=Z7s) (fn:=Try.f101) (by kernel_rfl) (c:=bodyOf Try.f101) (by kernel_rfl) (by decide) (ctxOK mixed tbl_ok rfl ⟨Z29.thin,trivial⟩ trivial) (SumOK.of trivial) (by kernel_rfl) Zbw Ze5 rfl (by decide) (by decide) rfl (by decide) rfl Z22 (fun x=>by kernel_rfl)
abbrev Zd1:Shape:={ sl:=[(0,(.fn 84 .nil .nil)),(1,(.hole (.slice y0)))],bl:=[],ts:=[(.slice y0)],pin:=0 }
abbrev Zfa:Shape:={ sl:=sl_0,bl:=[],ts:=[.bool],pin:=0 }
def Z4e (x:(List (List Int))):Option (Bool) :=
 (Z22 x).bind fun r9 =>
 some (Bool.not r9)
abbrev Zhi:=Spec.shp Zd1 Zfa Z4e
def Z95:Ctx:={ tb:=mkTb T2.tbl,fx:=[(101,[102],Spec.thin (Zgd))],sum:=[],nt:=9,pin:=0,nr:=true,ys:=[] }
theorem Z4f:Sound Try.prog 83 (Zhi) :=
 Sound.shp (C:=Z95) (fn:=Try.f83) (by kernel_rfl) (c:=bodyOf Try.f83) (by kernel_rfl) (by decide) (ctxOK mixed tbl_ok rfl ⟨Z23.thin,trivial⟩ trivial) (SumOK.of trivial) (by kernel_rfl) Zd1 Zfa rfl (by decide) (by decide) rfl (by decide) rfl Z4e (fun x=>by kernel_rfl)
abbrev Zd3:Shape:={ sl:=sl_6,bl:=[],ts:=[y0],pin:=0 }
abbrev Zfc:Shape:={ sl:=[(0,(.hole y2))],bl:=[],ts:=[y2],pin:=0 }
def Z4i (x:(List Int)):Option (List Int) :=
 some (over ((0:Int) :: ((0:Int) :: ((0:Int) :: ((0:Int) :: ((0:Int) :: ((0:Int) :: ((0:Int) :: ((0:Int) :: ((0:Int) :: ((0:Int) :: ((0:Int) :: ((0:Int) :: ((0:Int) :: ((0:Int) :: ((0:Int) :: ((0:Int) :: ([]:List Int))))))))))))))))) x (0:Nat) (lenMin (@Ty.int Go.IntKind.i64) x 16))
abbrev Zhk:=Spec.shp Zd3 Zfc Z4i
def Z98:Ctx:={ tb:=mkTb T2.tbl,fx:=[],sum:=[],nt:=7,pin:=0,nr:=true,ys:=[] }
theorem Z4j:Sound Try.prog 48 (Zhk) :=
 Sound.shp (C:=Z98) (fn:=Try.f48) (by kernel_rfl) (c:=bodyOf Try.f48) (by kernel_rfl) (by decide) (ctxOK mixed tbl_ok rfl trivial trivial) (SumOK.of trivial) (by kernel_rfl) Zd3 Zfc rfl (by decide) (by decide) rfl (by decide) rfl Z4i (fun x=>by kernel_rfl)
abbrev Zat:Shape:={ sl:=[(6,(.ptr 0 [])),(16,(.hole y0)),(17,(.hole (.int .i64))),(18,(.hole (.int .i64)))],bl:=[.var (.hole y2)],ts:=[y0,(.int .i64),(.int .i64),y2],pin:=0 }
abbrev Za0:List (ETag × Shape):=[(.exit 0,{ sl:=[(6,(.ptr 0 []))],bl:=[.var (.hole y2)],ts:=[y2],pin:=0 })]
def Z62 (x:T7):Option (T7 ⊕ (List Int)) :=
 bif (decide (x.2.2.1 < x.2.1)) then
 bif (inb x.2.2.1 (List.length x.1)) then
 bif (inb x.2.2.1 16) then
 bif (inb x.2.2.1 16) then
 some (.inl (x.1,x.2.1,(IntKind.wrap .i64 (x.2.2.1+(1:Int))),(List.set x.2.2.2 (toN x.2.2.1) (Max.max (getAt (0:Int) x.2.2.2 (toN x.2.2.1)) (getAt (0:Int) x.1 (toN x.2.2.1))))))
 else
 none
 else
 none
 else
 none
 else
 some (.inr x.2.2.2)
def Z8y:Ctx:={ tb:=mkTb T2.tbl,fx:=[(83,[84,2000000],Zhi),(48,[],Zhk)],sum:=[],nt:=33,pin:=0,nr:=true,ys:=[] }
theorem Z63:CSound Try.prog ⟨33,0,true⟩ (.loop (loopOf 6 Try.f46)) (Yby Zat Za0 (loop Z62)) :=
 Y9b (C:=Z8y) (ctxOK mixed tbl_ok rfl ⟨Z4f,Z4j,trivial⟩ trivial) (SumOK.of trivial) Zat Za0 rfl rfl Z62 (fun x=>by kernel_rfl)
abbrev Zau:Shape:={ sl:=[(1,(.ptr 0 [])),(3,(.hole (.int .i64)))],bl:=[.var (.hole y2)],ts:=[(.int .i64),y2],pin:=0 }
abbrev Za1:List (ETag × Shape):=[(.exit 0,{ sl:=[(1,(.ptr 0 [])),(3,(.hole (.int .i64)))],bl:=[.var (.hole y2)],ts:=[(.int .i64),y2],pin:=0 })]
def Z64 (x:T1):Option (T1 ⊕ T1) :=
 bif (decide (x.1 > (0:Int))) then
 bif (inb (IntKind.wrap .i64 (x.1 - (1:Int))) 16) then
 bif ((getAt (0:Int) x.2 (toN (IntKind.wrap .i64 (x.1 - (1:Int))))) == (0:Int)) then
 some (.inl ((IntKind.wrap .i64 (x.1 - (1:Int))),x.2))
 else
 some (.inr (x.1,x.2))
 else
 none
 else
 some (.inr (x.1,x.2))
def Z97:Ctx:={ tb:=mkTb T2.tbl,fx:=[],sum:=[],nt:=18,pin:=0,nr:=true,ys:=[] }
theorem Z65:CSound Try.prog ⟨18,0,true⟩ (.loop (loopOf 3 Try.f49)) (Yby Zau Za1 (loop Z64)) :=
 Y9b (C:=Z97) (ctxOK mixed tbl_ok rfl trivial trivial) (SumOK.of trivial) Zau Za1 rfl rfl Z64 (fun x=>by kernel_rfl)
abbrev Zbv:Shape:={ sl:=sl_6,bl:=[],ts:=[y0],pin:=0 }
abbrev Ze4:Shape:={ sl:=[(0,(.sl 0))],bl:=bl_8,ts:=[y0],pin:=0 }
def Z20 (x:(List Int)):Option (List Int) :=
 bif (Nat.beq (List.length x) (0:Nat)) then
 amb (
 some ([]:List Int)) (
 bif (fits ((List.length ([]:List Int))+(List.length x))) then
 some (([]:List Int)++x)
 else
 none)
 else
 bif (fits ((List.length ([]:List Int))+(List.length x))) then
 some (([]:List Int)++x)
 else
 none
abbrev Zgc:=Spec.shp Zbv Ze4 Z20
def Z7r:Ctx:={ tb:=mkTb T2.tbl,fx:=[],sum:=[],nt:=8,pin:=0,nr:=true,ys:=[] }
theorem Z21:Sound Try.prog 85 (Zgc) :=
 Sound.shp (C:=Z7r) (fn:=Try.f85) (by kernel_rfl) (c:=bodyOf Try.f85) (by kernel_rfl) (by decide) (ctxOK mixed tbl_ok rfl trivial trivial) (SumOK.of trivial) (by kernel_rfl) Zbv Ze4 rfl (by decide) (by decide) rfl (by decide) rfl Z20 (fun x=>by kernel_rfl)
abbrev Zd2:Shape:={ sl:=[(0,(.hole y2))],bl:=[],ts:=[y2],pin:=0 }
abbrev Zfb:Shape:={ sl:=sl_6,bl:=[],ts:=[y0],pin:=0 }
def Z4g (x:(List Int)):Option (List Int) :=
 (loop Z64 ((16:Int),x)).bind fun r12 =>
 bif (sub3 (0:Int) r12.1 (16:Nat)) then
 (Z20 (cut r12.2 (0:Nat) (toN r12.1))).bind fun r13 =>
 some r13
 else
 none
abbrev Zhj:=Spec.shp Zd2 Zfb Z4g
def Z96:Ctx:={ tb:=mkTb T2.tbl,fx:=[(85,[],Zgc)],sum:=[(0,3,Yby Zau Za1 (loop Z64))],nt:=18,pin:=0,nr:=true,ys:=[] }
theorem Z4h:Sound Try.prog 49 (Zhj) :=
 Sound.shp (C:=Z96) (fn:=Try.f49) (by kernel_rfl) (c:=bodyOf Try.f49) (by kernel_rfl) (by decide) (ctxOK mixed tbl_ok rfl ⟨Z21,trivial⟩ trivial) (SumOK.of ⟨(Ybz (d:=.loop (loopOf 3 Try.f49)) (by kernel_rfl) Z65),trivial⟩) (by kernel_rfl) Zd2 Zfb rfl (by decide) (by decide) rfl (by decide) rfl Z4g (fun x=>by kernel_rfl)
abbrev Zcu:Shape:={ sl:=[(0,(.hole y0)),(1,(.hole y0))],bl:=[],ts:=[y0,y0],pin:=0 }
abbrev Zf3:Shape:={ sl:=sl_8,bl:=[],ts:=ts_9,pin:=0 }
def Z40 (x:T5):Option T2 :=
 (Z4e (x.1 :: (x.2 :: ([]:List (List Int))))).bind fun r8 =>
 bif (Bool.not r8) then
 some (([]:List Int),(1:Int))
 else
 (Z4i x.1).bind fun r9 =>
 (loop Z62 (x.2,(((List.length x.2):Nat):Int),(0:Int),r9)).bind fun r10 =>
 (Z4g r10).bind fun r11 =>
 some (r11,(0:Int))
abbrev Zhb:=Spec.shp Zcu Zf3 Z40
def Z8x:Ctx:={ tb:=mkTb T2.tbl,fx:=[(83,[84,2000000],Zhi),(48,[],Zhk),(49,[],Zhj)],sum:=[(0,6,Yby Zat Za0 (loop Z62))],nt:=33,pin:=0,nr:=true,ys:=[] }
theorem Z41:Sound Try.prog 46 (Zhb) :=
 Sound.shp (C:=Z8x) (fn:=Try.f46) (by kernel_rfl) (c:=bodyOf Try.f46) (by kernel_rfl) (by decide) (ctxOK mixed tbl_ok rfl ⟨Z4f,Z4j,Z4h,trivial⟩ trivial) (SumOK.of ⟨(Ybz (d:=.loop (loopOf 6 Try.f46)) (by kernel_rfl) Z63),trivial⟩) (by kernel_rfl) Zcu Zf3 rfl (by decide) (by decide) rfl (by decide) rfl Z40 (fun x=>by kernel_rfl)
abbrev Zc6:Shape:={ sl:=[(0,(.hole y0)),(1,(.ptr 0 []))],bl:=[.var (.hole y0)],ts:=[y0,y0],pin:=0 }
abbrev Zef:Shape:={ sl:=sl_6,bl:=[.var (.hole y0)],ts:=[y0,y0],pin:=1 }
def Z2l (x:T5):Option T5 :=
 (Z40 (x.2,x.1)).bind fun r7 =>
 some (r7.1,r7.1)
abbrev Zgn:=Spec.shp Zc6 Zef Z2l
def Z88:Ctx:={ tb:=mkTb T2.tbl,fx:=[(46,[],Zhb)],sum:=[],nt:=11,pin:=1,nr:=true,ys:=[] }
theorem Z2m:Sound Try.prog 45 (Zgn) :=
 Sound.shp (C:=Z88) (fn:=Try.f45) (by kernel_rfl) (c:=bodyOf Try.f45) (by kernel_rfl) (by decide) (ctxOK mixed tbl_ok rfl ⟨Z41,trivial⟩ trivial) (SumOK.of trivial) (by kernel_rfl) Zc6 Zef rfl (by decide) (by decide) rfl (by decide) rfl Z2l (fun x=>by kernel_rfl)
abbrev Zap:Shape:={ sl:=[(6,(.hole (.slice y0))),(8,(.sl 2)),(10,(.ptr 0 [])),(11,(.fn 45 .nil (.cons (.ptr 1 []) .nil))),(12,(.hole y0)),(27,(.hole y13)),(28,(.hole (.int .i64))),(29,(.hole (.int .i64))),(40,(.hole y0)),(41,(.hole (.int .i64))),(42,(.hole (.int .i64)))],bl:=[.var (.hole y12),.var (.hole y0),.row y0],ts:=[(.slice y0),y0,y13,(.int .i64),(.int .i64),y0,(.int .i64),(.int .i64),y12,y0,(.slice y0)],pin:=0 }
abbrev Z9w:List (ETag × Shape):=[(.exit 2,{ sl:=[(6,(.hole (.slice y0))),(8,(.sl 1)),(10,(.ptr 0 [])),(12,(.hole y0)),(27,(.hole y13)),(28,(.hole (.int .i64))),(29,(.hole (.int .i64)))],bl:=[.var (.hole y12),.row y0],ts:=[(.slice y0),y0,y13,(.int .i64),(.int .i64),y12,(.slice y0)],pin:=0 })]
def Z5u (x:(List (List Int) × List Int × List (T9) × Int × Int × List Int × Int × Int × T9 × List Int × List (List Int))):Option ((List (List Int) × List Int × List (T9) × Int × Int × List Int × Int × Int × T9 × List Int × List (List Int)) ⊕ (List (List Int) × List Int × List (T9) × Int × Int × T9 × List (List Int))) :=
 bif (decide (x.2.2.2.2.2.2.2.1 < x.2.2.2.2.2.2.1)) then
 bif (inb x.2.2.2.2.2.2.2.1 (List.length x.2.2.2.2.2.1)) then
 bif (inb (getAt (0:Int) x.2.2.2.2.2.1 (toN x.2.2.2.2.2.2.2.1)) (List.length x.2.2.2.2.2.2.2.2.2.2)) then
 (Z2l ((getAt ([]:List Int) x.2.2.2.2.2.2.2.2.2.2 (toN (getAt (0:Int) x.2.2.2.2.2.1 (toN x.2.2.2.2.2.2.2.1)))),x.2.2.2.2.2.2.2.2.2.1)).bind fun r8 =>
 some (.inl (x.1,r8.1,x.2.2.1,x.2.2.2.1,x.2.2.2.2.1,x.2.2.2.2.2.1,x.2.2.2.2.2.2.1,(IntKind.wrap .i64 (x.2.2.2.2.2.2.2.1+(1:Int))),x.2.2.2.2.2.2.2.2.1,r8.2,x.2.2.2.2.2.2.2.2.2.2))
 else
 none
 else
 none
 else
 some (.inr (x.1,x.2.1,x.2.2.1,x.2.2.2.1,x.2.2.2.2.1,x.2.2.2.2.2.2.2.2.1,x.2.2.2.2.2.2.2.2.2.2))
def Z82:Ctx:={ tb:=mkTb T2.tbl,fx:=[(7,[],Zfd),(28,[],Zgm),(45,[],Zgn)],sum:=[],nt:=71,pin:=0,nr:=true,ys:=[] }
theorem Z5v:CSound Try.prog ⟨71,0,true⟩ (.loop (loopOf 12 Try.f13)) (Yby Zap Z9w (loop Z5u)) :=
 Y9b (C:=Z82) (ctxOK mixed tbl_ok rfl ⟨Z1,Z2n,Z2m,trivial⟩ trivial) (SumOK.of trivial) Zap Z9w rfl rfl Z5u (fun x=>by kernel_rfl)
abbrev Zct:Shape:={ sl:=sl_8,bl:=[],ts:=ts_9,pin:=0 }
abbrev Zf2:Shape:={ sl:=[(0,(.hole (.int .i64))),(1,(.hole (.int .i64)))],bl:=[],ts:=[(.int .i64),(.int .i64)],pin:=0 }
def Z3y (x:T2):Option (Int × Int) :=
 (Z42 x.1).bind fun r10 =>
 bif (Bool.not r10) then
 some ((0:Int),(1:Int))
 else
 bif (decide (x.2 < (0:Int))) then
 some ((0:Int),(3:Int))
 else
 bif (decide (x.2 ≥ (16:Int))) then
 some ((0:Int),(3:Int))
 else
 (Z4i x.1).bind fun r11 =>
 bif (inb x.2 (16:Nat)) then
 some ((getAt (0:Int) r11 (toN x.2)),(0:Int))
 else
 none
abbrev Zha:=Spec.shp Zct Zf2 Z3y
def Z8w:Ctx:={ tb:=mkTb T2.tbl,fx:=[(84,[],Zhc),(48,[],Zhk)],sum:=[],nt:=21,pin:=0,nr:=true,ys:=[] }
theorem Z3z:Sound Try.prog 47 (Zha) :=
 Sound.shp (C:=Z8w) (fn:=Try.f47) (by kernel_rfl) (c:=bodyOf Try.f47) (by kernel_rfl) (by decide) (ctxOK mixed tbl_ok rfl ⟨Z45,Z4j,trivial⟩ trivial) (SumOK.of trivial) (by kernel_rfl) Zct Zf2 rfl (by decide) (by decide) rfl (by decide) rfl Z3y (fun x=>by kernel_rfl)
abbrev Zcx:Shape:={ sl:=sl_8,bl:=[],ts:=ts_9,pin:=0 }
abbrev Zf6:Shape:={ sl:=sl_8,bl:=[],ts:=ts_9,pin:=0 }
def Z46 (x:T2):Option T2 :=
 (Z3y (x.1,x.2)).bind fun r9 =>
 bif (r9.2 != (0:Int)) then
 some (([]:List Int),r9.2)
 else
 bif (r9.1 == (1099511627776:Int)) then
 some (([]:List Int),(8:Int))
 else
 (Z4i x.1).bind fun r10 =>
 bif (inb x.2 16) then
 bif (inb x.2 16) then
 (Z4g (List.set r10 (toN x.2) (IntKind.wrap .i64 ((getAt (0:Int) r10 (toN x.2))+(1:Int))))).bind fun r11 =>
 some (r11,(0:Int))
 else
 none
 else
 none
abbrev Zhe:=Spec.shp Zcx Zf6 Z46
def Z91:Ctx:={ tb:=mkTb T2.tbl,fx:=[(47,[],Zha),(48,[],Zhk),(49,[],Zhj)],sum:=[],nt:=31,pin:=0,nr:=true,ys:=[] }
theorem Z47:Sound Try.prog 29 (Zhe) :=
 Sound.shp (C:=Z91) (fn:=Try.f29) (by kernel_rfl) (c:=bodyOf Try.f29) (by kernel_rfl) (by decide) (ctxOK mixed tbl_ok rfl ⟨Z3z,Z4j,Z4h,trivial⟩ trivial) (SumOK.of trivial) (by kernel_rfl) Zcx Zf6 rfl (by decide) (by decide) rfl (by decide) rfl Z46 (fun x=>by kernel_rfl)
abbrev Zaq:Shape:={ sl:=[(6,(.hole (.slice y0))),(8,(.sl 0)),(27,(.hole y13)),(28,(.hole (.int .i64))),(29,(.hole (.int .i64)))],bl:=[.row y0],ts:=[(.slice y0),y13,(.int .i64),(.int .i64),(.slice y0)],pin:=0 }
abbrev Z9x:List (ETag × Shape):=[(.exit 0,{ sl:=[(8,(.sl 0))],bl:=[.row y0],ts:=[(.slice y0)],pin:=0 })]
def Z5w (x:(List (List Int) × List (T9) × Int × Int × List (List Int))):Option ((List (List Int) × List (T9) × Int × Int × List (List Int)) ⊕ (List (List Int))) :=
 bif (decide (x.2.2.2.1 < x.2.2.1)) then
 bif (inb x.2.2.2.1 (List.length x.2.1)) then
 (Z2k ()).bind fun r5 =>
 (Z2l (([]:List Int),([]:List Int))).bind fun r6 =>
 bif (inb x.2.2.2.1 (List.length x.1)) then
 (loop Z5u (x.1,r6.1,x.2.1,x.2.2.1,x.2.2.2.1,(getAt ([]:List Int) x.1 (toN x.2.2.2.1)),(((List.length (getAt ([]:List Int) x.1 (toN x.2.2.2.1))):Nat):Int),(0:Int),(getAt ((0:Int),(0:Int),(0:Int),(0:Int),(0:Int)) x.2.1 (toN x.2.2.2.1)),r6.2,x.2.2.2.2)).bind fun r7 =>
 (Z46 (r7.2.1,r7.2.2.2.2.2.1.1)).bind fun r8 =>
 bif (Bool.and (sub3 (0:Int) (((List.length r8.1):Nat):Int) (List.length r8.1)) (sub3 (((List.length r8.1):Nat):Int) (((List.length r8.1):Nat):Int) (List.length r8.1))) then
 bif (fits ((List.length r7.2.2.2.2.2.2)+(List.length ((cut r8.1 (toN (0:Int)) ((toN (((List.length r8.1):Nat):Int)) - (toN (0:Int)))) :: ([]:List (List Int)))))) then
 some (.inl (r7.1,r7.2.2.1,r7.2.2.2.1,(IntKind.wrap .i64 (r7.2.2.2.2.1+(1:Int))),(r7.2.2.2.2.2.2++((cut r8.1 (toN (0:Int)) ((toN (((List.length r8.1):Nat):Int)) - (toN (0:Int)))) :: ([]:List (List Int))))))
 else
 none
 else
 none
 else
 none
 else
 none
 else
 some (.inr x.2.2.2.2)
def Z83:Ctx:={ tb:=mkTb T2.tbl,fx:=[(7,[],Zfd),(28,[],Zgm),(45,[],Zgn),(29,[],Zhe)],sum:=[(0,12,Yby Zap Z9w (loop Z5u))],nt:=71,pin:=0,nr:=true,ys:=[] }
theorem Z5x:CSound Try.prog ⟨71,0,true⟩ (.loop (loopOf 7 Try.f13)) (Yby Zaq Z9x (loop Z5w)) :=
 Y9b (C:=Z83) (ctxOK mixed tbl_ok rfl ⟨Z1,Z2n,Z2m,Z47,trivial⟩ trivial) (SumOK.of ⟨(Ybz (d:=.loop (loopOf 12 Try.f13)) (by kernel_rfl) Z5v),trivial⟩) Zaq Z9x rfl rfl Z5w (fun x=>by kernel_rfl)
abbrev Zc2:Shape:={ sl:=sl_5,bl:=[],ts:=[y0,y13],pin:=0 }
abbrev Zeb:Shape:={ sl:=[(0,(.hole (.slice y0))),(1,(.hole (.int .i64)))],bl:=[],ts:=[(.slice y0),(.int .i64)],pin:=0 }
def Z2e (x:T14):Option (List (List Int) × Int) :=
 (Z0 (x.1,x.2)).bind fun r3 =>
 bif (r3.2 != (0:Int)) then
 some (([]:List (List Int)),r3.2)
 else
 bif (mkOK (0:Int) (((List.length x.2):Nat):Int)) then
 (loop Z5w (r3.1,x.2,(((List.length x.2):Nat):Int),(0:Int),(List.replicate (toN (0:Int)) ([]:List Int)))).bind fun r4 =>
 some (r4,(0:Int))
 else
 none
abbrev Zgj:=Spec.shp Zc2 Zeb Z2e
def Z81:Ctx:={ tb:=mkTb T2.tbl,fx:=[(7,[],Zfd),(28,[],Zgm),(45,[],Zgn),(29,[],Zhe)],sum:=[(0,12,Yby Zap Z9w (loop Z5u)),(0,7,Yby Zaq Z9x (loop Z5w))],nt:=71,pin:=0,nr:=true,ys:=[] }
theorem Z2f:Sound Try.prog 13 (Zgj) :=
 Sound.shp (C:=Z81) (fn:=Try.f13) (by kernel_rfl) (c:=bodyOf Try.f13) (by kernel_rfl) (by decide) (ctxOK mixed tbl_ok rfl ⟨Z1,Z2n,Z2m,Z47,trivial⟩ trivial) (SumOK.of ⟨(Ybz (d:=.loop (loopOf 12 Try.f13)) (by kernel_rfl) Z5v),(Ybz (d:=.loop (loopOf 7 Try.f13)) (by kernel_rfl) Z5x),trivial⟩) (by kernel_rfl) Zc2 Zeb rfl (by decide) (by decide) rfl (by decide) rfl Z2e (fun x=>by kernel_rfl)
abbrev Zc4:Shape:={ sl:=sl_9,bl:=[],ts:=ts_10,pin:=0 }
abbrev Zed:Shape:={ sl:=sl_8,bl:=[],ts:=ts_9,pin:=0 }
def Z2i (x:T15):Option T2 :=
 (Z2e (x.1,x.2.1)).bind fun r4 =>
 bif (r4.2 != (0:Int)) then
 some (([]:List Int),r4.2)
 else
 bif (decide (x.2.2 < (0:Int))) then
 some (([]:List Int),(3:Int))
 else
 bif (decide (x.2.2 ≥ (((List.length x.2.1):Nat):Int))) then
 some (([]:List Int),(3:Int))
 else
 bif (inb x.2.2 (List.length r4.1)) then
 some ((getAt ([]:List Int) r4.1 (toN x.2.2)),(0:Int))
 else
 none
abbrev Zgl:=Spec.shp Zc4 Zed Z2i
def Z86:Ctx:={ tb:=mkTb T2.tbl,fx:=[(13,[],Zgj)],sum:=[],nt:=33,pin:=0,nr:=true,ys:=[] }
theorem Z2j:Sound Try.prog 14 (Zgl) :=
 Sound.shp (C:=Z86) (fn:=Try.f14) (by kernel_rfl) (c:=bodyOf Try.f14) (by kernel_rfl) (by decide) (ctxOK mixed tbl_ok rfl ⟨Z2f,trivial⟩ trivial) (SumOK.of trivial) (by kernel_rfl) Zc4 Zed rfl (by decide) (by decide) rfl (by decide) rfl Z2i (fun x=>by kernel_rfl)
abbrev Zar:Shape:={ sl:=[(8,(.fn 45 .nil (.cons (.ptr 0 []) .nil))),(9,(.hole y0)),(24,(.hole (.slice y0))),(25,(.hole (.int .i64))),(26,(.hole (.int .i64)))],bl:=[.var (.hole y0)],ts:=[y0,(.slice y0),(.int .i64),(.int .i64),y0],pin:=0 }
abbrev Z9y:List (ETag × Shape):=[(.exit 0,{ sl:=[(9,(.hole y0))],bl:=[],ts:=[y0],pin:=0 })]
def Z5y (x:(List Int × List (List Int) × Int × Int × List Int)):Option ((List Int × List (List Int) × Int × Int × List Int) ⊕ (List Int)) :=
 bif (decide (x.2.2.2.1 < x.2.2.1)) then
 bif (inb x.2.2.2.1 (List.length x.2.1)) then
 (Z2l ((getAt ([]:List Int) x.2.1 (toN x.2.2.2.1)),x.2.2.2.2)).bind fun r9 =>
 some (.inl (r9.1,x.2.1,x.2.2.1,(IntKind.wrap .i64 (x.2.2.2.1+(1:Int))),r9.2))
 else
 none
 else
 some (.inr x.1)
def Z85:Ctx:={ tb:=mkTb T2.tbl,fx:=[(13,[],Zgj),(28,[],Zgm),(45,[],Zgn)],sum:=[],nt:=35,pin:=0,nr:=true,ys:=[] }
theorem Z5z:CSound Try.prog ⟨35,0,true⟩ (.loop (loopOf 8 Try.f15)) (Yby Zar Z9y (loop Z5y)) :=
 Y9b (C:=Z85) (ctxOK mixed tbl_ok rfl ⟨Z2f,Z2n,Z2m,trivial⟩ trivial) (SumOK.of trivial) Zar Z9y rfl rfl Z5y (fun x=>by kernel_rfl)
abbrev Zc3:Shape:={ sl:=sl_5,bl:=[],ts:=[y0,y13],pin:=0 }
abbrev Zec:Shape:={ sl:=sl_8,bl:=[],ts:=ts_9,pin:=0 }
def Z2g (x:T14):Option T2 :=
 (Z2e (x.1,x.2)).bind fun r5 =>
 bif (r5.2 != (0:Int)) then
 some (([]:List Int),r5.2)
 else
 (Z2k ()).bind fun r6 =>
 (Z2l (([]:List Int),([]:List Int))).bind fun r7 =>
 (loop Z5y (r7.1,r5.1,(((List.length r5.1):Nat):Int),(0:Int),r7.2)).bind fun r8 =>
 some (r8,(0:Int))
abbrev Zgk:=Spec.shp Zc3 Zec Z2g
def Z84:Ctx:={ tb:=mkTb T2.tbl,fx:=[(13,[],Zgj),(28,[],Zgm),(45,[],Zgn)],sum:=[(0,8,Yby Zar Z9y (loop Z5y))],nt:=35,pin:=0,nr:=true,ys:=[] }
theorem Z2h:Sound Try.prog 15 (Zgk) :=
 Sound.shp (C:=Z84) (fn:=Try.f15) (by kernel_rfl) (c:=bodyOf Try.f15) (by kernel_rfl) (by decide) (ctxOK mixed tbl_ok rfl ⟨Z2f,Z2n,Z2m,trivial⟩ trivial) (SumOK.of ⟨(Ybz (d:=.loop (loopOf 8 Try.f15)) (by kernel_rfl) Z5z),trivial⟩) (by kernel_rfl) Zc3 Zec rfl (by decide) (by decide) rfl (by decide) rfl Z2g (fun x=>by kernel_rfl)
abbrev Zab:Shape:={ sl:=[(0,(.hole y0)),(5,(.hole y0)),(6,(.hole (.int .i64))),(7,(.hole (.int .i64)))],bl:=[],ts:=[y0,y0,(.int .i64),(.int .i64)],pin:=0 }
abbrev Z9i:List (ETag × Shape):=[(.ret,{ sl:=[(2,(.hole .bool))],bl:=[],ts:=[.bool],pin:=0 }),(.exit 0,{ sl:=sl_6,bl:=[],ts:=[y0],pin:=0 })]
def Z52 (x:T8):Option (T8 ⊕ ((Bool) ⊕ (List Int))) :=
 bif (decide (x.2.2.2 < x.2.2.1)) then
 bif (inb x.2.2.2 (List.length x.2.1)) then
 bif (decide ((getAt (0:Int) x.2.1 (toN x.2.2.2)) < (Int.negSucc 0))) then
 some (.inr (.inl false))
 else
 bif (decide ((getAt (0:Int) x.2.1 (toN x.2.2.2)) > (3:Int))) then
 some (.inr (.inl false))
 else
 some (.inl (x.1,x.2.1,x.2.2.1,(IntKind.wrap .i64 (x.2.2.2+(1:Int)))))
 else
 none
 else
 some (.inr (.inr x.1))
def Z6v:Ctx:={ tb:=mkTb T2.tbl,fx:=[],sum:=[],nt:=21,pin:=0,nr:=true,ys:=[] }
theorem Z53:CSound Try.prog ⟨21,0,true⟩ (.loop (loopOf 3 Try.f25)) (Yby Zab Z9i (loop Z52)) :=
 Y9b (C:=Z6v) (ctxOK mixed tbl_ok rfl trivial trivial) (SumOK.of trivial) Zab Z9i rfl rfl Z52 (fun x=>by kernel_rfl)
abbrev Zb9:Shape:={ sl:=sl_6,bl:=[],ts:=[y0],pin:=0 }
abbrev Zdi:Shape:={ sl:=sl_0,bl:=[],ts:=[.bool],pin:=0 }
def Zs (x:(List Int)):Option (Bool) :=
 (loop Z52 (x,x,(((List.length x):Nat):Int),(0:Int))).bind fun r7 =>
 match r7 with
 | .inl y8 =>
 some y8
 | .inr y8 =>
 some (decide ((((List.length y8):Nat):Int) ≤ (4:Int)))
abbrev Zfq:=Spec.shp Zb9 Zdi Zs
def Z6u:Ctx:={ tb:=mkTb T2.tbl,fx:=[],sum:=[(0,3,Yby Zab Z9i (loop Z52))],nt:=21,pin:=0,nr:=true,ys:=[] }
theorem Zt:Sound Try.prog 25 (Zfq) :=
 Sound.shp (C:=Z6u) (fn:=Try.f25) (by kernel_rfl) (c:=bodyOf Try.f25) (by kernel_rfl) (by decide) (ctxOK mixed tbl_ok rfl trivial trivial) (SumOK.of ⟨(Ybz (d:=.loop (loopOf 3 Try.f25)) (by kernel_rfl) Z53),trivial⟩) (by kernel_rfl) Zb9 Zdi rfl (by decide) (by decide) rfl (by decide) rfl Zs (fun x=>by kernel_rfl)
abbrev Zbn:Shape:={ sl:=sl_10,bl:=[],ts:=[y13,(.int .i64)],pin:=0 }
abbrev Zdw:Shape:={ sl:=sl_0,bl:=[],ts:=[.bool],pin:=0 }
def Z1k (x:T13):Option (Bool) :=
 bif (inb x.2 (List.length x.1)) then
 bif (decide ((getAt ((0:Int),(0:Int),(0:Int),(0:Int),(0:Int)) x.1 (toN x.2)).1 < (0:Int))) then
 some true
 else
 bif (decide ((getAt ((0:Int),(0:Int),(0:Int),(0:Int),(0:Int)) x.1 (toN x.2)).1 > (7:Int))) then
 some true
 else
 bif (decide ((getAt ((0:Int),(0:Int),(0:Int),(0:Int),(0:Int)) x.1 (toN x.2)).2.1 < (0:Int))) then
 some true
 else
 bif (decide ((getAt ((0:Int),(0:Int),(0:Int),(0:Int),(0:Int)) x.1 (toN x.2)).2.1 > (17:Int))) then
 some true
 else
 bif (decide ((getAt ((0:Int),(0:Int),(0:Int),(0:Int),(0:Int)) x.1 (toN x.2)).2.2.2.1 < (0:Int))) then
 some true
 else
 bif (decide ((getAt ((0:Int),(0:Int),(0:Int),(0:Int),(0:Int)) x.1 (toN x.2)).2.2.2.2 < (Int.negSucc 0))) then
 some true
 else
 some (decide ((getAt ((0:Int),(0:Int),(0:Int),(0:Int),(0:Int)) x.1 (toN x.2)).2.2.2.2 ≥ x.2))
 else
 none
abbrev Zg4:=Spec.shp Zbn Zdw Z1k
def Z7e:Ctx:={ tb:=mkTb T2.tbl,fx:=[],sum:=[],nt:=44,pin:=0,nr:=true,ys:=[] }
theorem Z1l:Sound Try.prog 77 (Zg4) :=
 Sound.shp (C:=Z7e) (fn:=Try.f77) (by kernel_rfl) (c:=bodyOf Try.f77) (by kernel_rfl) (by decide) (ctxOK mixed tbl_ok rfl trivial trivial) (SumOK.of trivial) (by kernel_rfl) Zbn Zdw rfl (by decide) (by decide) rfl (by decide) rfl Z1k (fun x=>by kernel_rfl)
abbrev Zad:Shape:={ sl:=[(0,(.hole y13)),(1,(.hole (.int .i64))),(5,(.hole (.int .i64))),(10,(.hole (.int .i64))),(11,(.hole (.int .i64)))],bl:=[],ts:=[y13,(.int .i64),(.int .i64),(.int .i64),(.int .i64)],pin:=0 }
abbrev Z9k:List (ETag × Shape):=[(.exit 0,{ sl:=[(5,(.hole (.int .i64)))],bl:=[],ts:=ts_0,pin:=0 })]
def Z56 (x:(List (T9) × Int × Int × Int × Int)):Option ((List (T9) × Int × Int × Int × Int) ⊕ (Int)) :=
 bif (decide (x.2.2.2.2 < x.2.2.2.1)) then
 bif (inb x.2.2.2.2 (List.length x.1)) then
 bif (inb x.2.1 (List.length x.1)) then
 bif ((getAt ((0:Int),(0:Int),(0:Int),(0:Int),(0:Int)) x.1 (toN x.2.2.2.2)).1 == (getAt ((0:Int),(0:Int),(0:Int),(0:Int),(0:Int)) x.1 (toN x.2.1)).1) then
 some (.inl (x.1,x.2.1,x.2.2.2.2,x.2.2.2.1,(IntKind.wrap .i64 (x.2.2.2.2+(1:Int)))))
 else
 some (.inl (x.1,x.2.1,x.2.2.1,x.2.2.2.1,(IntKind.wrap .i64 (x.2.2.2.2+(1:Int)))))
 else
 none
 else
 none
 else
 some (.inr x.2.2.1)
def Z6z:Ctx:={ tb:=mkTb T2.tbl,fx:=[],sum:=[],nt:=28,pin:=0,nr:=true,ys:=[] }
theorem Z57:CSound Try.prog ⟨28,0,true⟩ (.loop (loopOf 4 Try.f43)) (Yby Zad Z9k (loop Z56)) :=
 Y9b (C:=Z6z) (ctxOK mixed tbl_ok rfl trivial trivial) (SumOK.of trivial) Zad Z9k rfl rfl Z56 (fun x=>by kernel_rfl)
abbrev Zbb:Shape:={ sl:=sl_10,bl:=[],ts:=[y13,(.int .i64)],pin:=0 }
abbrev Zdk:Shape:={ sl:=sl_1,bl:=[],ts:=ts_0,pin:=0 }
def Zw (x:T13):Option (Int) :=
 bif (sub3 (0:Int) x.2 (List.length x.1)) then
 (loop Z56 (x.1,x.2,(Int.negSucc 0),(((List.length (cut x.1 (toN (0:Int)) ((toN x.2) - (toN (0:Int))))):Nat):Int),(0:Int))).bind fun r13 =>
 some r13
 else
 none
abbrev Zfs:=Spec.shp Zbb Zdk Zw
def Z6y:Ctx:={ tb:=mkTb T2.tbl,fx:=[],sum:=[(0,4,Yby Zad Z9k (loop Z56))],nt:=28,pin:=0,nr:=true,ys:=[] }
theorem Zx:Sound Try.prog 43 (Zfs) :=
 Sound.shp (C:=Z6y) (fn:=Try.f43) (by kernel_rfl) (c:=bodyOf Try.f43) (by kernel_rfl) (by decide) (ctxOK mixed tbl_ok rfl trivial trivial) (SumOK.of ⟨(Ybz (d:=.loop (loopOf 4 Try.f43)) (by kernel_rfl) Z57),trivial⟩) (by kernel_rfl) Zbb Zdk rfl (by decide) (by decide) rfl (by decide) rfl Zw (fun x=>by kernel_rfl)
abbrev Zbg:Shape:={ sl:=sl_10,bl:=[],ts:=[y13,(.int .i64)],pin:=0 }
abbrev Zdp:Shape:={ sl:=sl_0,bl:=[],ts:=[.bool],pin:=0 }
def Z16 (x:T13):Option (Bool) :=
 bif (inb x.2 (List.length x.1)) then
 bif ((getAt ((0:Int),(0:Int),(0:Int),(0:Int),(0:Int)) x.1 (toN x.2)).2.1 != (0:Int)) then
 (Zw (x.1,x.2)).bind fun r12 =>
 some (decide (r12 < (0:Int)))
 else
 (Zw (x.1,x.2)).bind fun r12 =>
 bif (decide (r12 ≥ (0:Int))) then
 some true
 else
 bif ((getAt ((0:Int),(0:Int),(0:Int),(0:Int),(0:Int)) x.1 (toN x.2)).2.2.1 != (0:Int)) then
 some true
 else
 bif ((getAt ((0:Int),(0:Int),(0:Int),(0:Int),(0:Int)) x.1 (toN x.2)).2.2.2.1 != (0:Int)) then
 some true
 else
 bif ((getAt ((0:Int),(0:Int),(0:Int),(0:Int),(0:Int)) x.1 (toN x.2)).1 == (0:Int)) then
 bif ((getAt ((0:Int),(0:Int),(0:Int),(0:Int),(0:Int)) x.1 (toN x.2)).2.2.2.2 != (Int.negSucc 0)) then
 some true
 else
 bif (decide ((getAt ((0:Int),(0:Int),(0:Int),(0:Int),(0:Int)) x.1 (toN x.2)).1 > (0:Int))) then
 bif (decide ((getAt ((0:Int),(0:Int),(0:Int),(0:Int),(0:Int)) x.1 (toN x.2)).2.2.2.2 < (0:Int))) then
 some true
 else
 bif (inb (getAt ((0:Int),(0:Int),(0:Int),(0:Int),(0:Int)) x.1 (toN x.2)).2.2.2.2 (List.length x.1)) then
 bif ((getAt ((0:Int),(0:Int),(0:Int),(0:Int),(0:Int)) x.1 (toN (getAt ((0:Int),(0:Int),(0:Int),(0:Int),(0:Int)) x.1 (toN x.2)).2.2.2.2)).2.1 != (1:Int)) then
 some true
 else
 bif (inb (getAt ((0:Int),(0:Int),(0:Int),(0:Int),(0:Int)) x.1 (toN x.2)).2.2.2.2 (List.length x.1)) then
 some ((getAt ((0:Int),(0:Int),(0:Int),(0:Int),(0:Int)) x.1 (toN (getAt ((0:Int),(0:Int),(0:Int),(0:Int),(0:Int)) x.1 (toN x.2)).2.2.2.2)).2.2.1 != (getAt ((0:Int),(0:Int),(0:Int),(0:Int),(0:Int)) x.1 (toN x.2)).1)
 else
 none
 else
 none
 else
 some false
 else
 bif (decide ((getAt ((0:Int),(0:Int),(0:Int),(0:Int),(0:Int)) x.1 (toN x.2)).1 > (0:Int))) then
 bif (decide ((getAt ((0:Int),(0:Int),(0:Int),(0:Int),(0:Int)) x.1 (toN x.2)).2.2.2.2 < (0:Int))) then
 some true
 else
 bif (inb (getAt ((0:Int),(0:Int),(0:Int),(0:Int),(0:Int)) x.1 (toN x.2)).2.2.2.2 (List.length x.1)) then
 bif ((getAt ((0:Int),(0:Int),(0:Int),(0:Int),(0:Int)) x.1 (toN (getAt ((0:Int),(0:Int),(0:Int),(0:Int),(0:Int)) x.1 (toN x.2)).2.2.2.2)).2.1 != (1:Int)) then
 some true
 else
 bif (inb (getAt ((0:Int),(0:Int),(0:Int),(0:Int),(0:Int)) x.1 (toN x.2)).2.2.2.2 (List.length x.1)) then
 some ((getAt ((0:Int),(0:Int),(0:Int),(0:Int),(0:Int)) x.1 (toN (getAt ((0:Int),(0:Int),(0:Int),(0:Int),(0:Int)) x.1 (toN x.2)).2.2.2.2)).2.2.1 != (getAt ((0:Int),(0:Int),(0:Int),(0:Int),(0:Int)) x.1 (toN x.2)).1)
 else
 none
 else
 none
 else
 some false
 else
 none
abbrev Zfx:=Spec.shp Zbg Zdp Z16
def Z75:Ctx:={ tb:=mkTb T2.tbl,fx:=[(43,[],Zfs)],sum:=[],nt:=69,pin:=0,nr:=true,ys:=[] }
theorem Z17:Sound Try.prog 78 (Zfx) :=
 Sound.shp (C:=Z75) (fn:=Try.f78) (by kernel_rfl) (c:=bodyOf Try.f78) (by kernel_rfl) (by decide) (ctxOK mixed tbl_ok rfl ⟨Zx,trivial⟩ trivial) (SumOK.of trivial) (by kernel_rfl) Zbg Zdp rfl (by decide) (by decide) rfl (by decide) rfl Z16 (fun x=>by kernel_rfl)
abbrev Zbl:Shape:={ sl:=sl_1,bl:=[],ts:=ts_0,pin:=0 }
abbrev Zdu:Shape:={ sl:=sl_0,bl:=[],ts:=[.bool],pin:=0 }
def Z1g (x:(Int)):Option (Bool) :=
 bif (x == (3:Int)) then
 some true
 else
 some (x == (5:Int))
abbrev Zg2:=Spec.shp Zbl Zdu Z1g
def Z7c:Ctx:={ tb:=mkTb T2.tbl,fx:=[],sum:=[],nt:=9,pin:=0,nr:=true,ys:=[] }
theorem Z1h:Sound Try.prog 95 (Zg2) :=
 Sound.shp (C:=Z7c) (fn:=Try.f95) (by kernel_rfl) (c:=bodyOf Try.f95) (by kernel_rfl) (by decide) (ctxOK mixed tbl_ok rfl trivial trivial) (SumOK.of trivial) (by kernel_rfl) Zbl Zdu rfl (by decide) (by decide) rfl (by decide) rfl Z1g (fun x=>by kernel_rfl)
abbrev Zbf:Shape:={ sl:=sl_1,bl:=[],ts:=ts_0,pin:=0 }
abbrev Zdo:Shape:={ sl:=sl_0,bl:=[],ts:=[.bool],pin:=0 }
def Z14 (x:(Int)):Option (Bool) :=
 bif (x == (0:Int)) then
 some true
 else
 bif (x == (3:Int)) then
 some true
 else
 bif (x == (5:Int)) then
 some true
 else
 bif (x == (6:Int)) then
 some true
 else
 bif (x == (9:Int)) then
 some true
 else
 bif (x == (11:Int)) then
 some true
 else
 some (x == (15:Int))
abbrev Zfw:=Spec.shp Zbf Zdo Z14
def Z74:Ctx:={ tb:=mkTb T2.tbl,fx:=[],sum:=[],nt:=29,pin:=0,nr:=true,ys:=[] }
theorem Z15:Sound Try.prog 96 (Zfw) :=
 Sound.shp (C:=Z74) (fn:=Try.f96) (by kernel_rfl) (c:=bodyOf Try.f96) (by kernel_rfl) (by decide) (ctxOK mixed tbl_ok rfl trivial trivial) (SumOK.of trivial) (by kernel_rfl) Zbf Zdo rfl (by decide) (by decide) rfl (by decide) rfl Z14 (fun x=>by kernel_rfl)
abbrev Zag:Shape:={ sl:=[(7,(.ptr 0 [])),(8,(.hole (.int .i64))),(40,(.hole y13)),(41,(.hole (.int .i64))),(42,(.hole (.int .i64)))],bl:=[.var (.hole y12)],ts:=[(.int .i64),y13,(.int .i64),(.int .i64),y12],pin:=0 }
abbrev Z9n:List (ETag × Shape):=[(.exit 0,{ sl:=[(7,(.ptr 0 [])),(8,(.hole (.int .i64)))],bl:=[.var (.hole y12)],ts:=[(.int .i64),y12],pin:=0 })]
def Z5c (x:(Int × List (T9) × Int × Int × T9)):Option ((Int × List (T9) × Int × Int × T9) ⊕ (Int × T9)) :=
 bif (decide (x.2.2.2.1 < x.2.2.1)) then
 bif (inb x.2.2.2.1 (List.length x.2.1)) then
 bif ((getAt ((0:Int),(0:Int),(0:Int),(0:Int),(0:Int)) x.2.1 (toN x.2.2.2.1)).2.1 == (0:Int)) then
 some (.inl ((IntKind.wrap .i64 (x.1+(1:Int))),x.2.1,x.2.2.1,(IntKind.wrap .i64 (x.2.2.2.1+(1:Int))),x.2.2.2.2))
 else
 some (.inl (x.1,x.2.1,x.2.2.1,(IntKind.wrap .i64 (x.2.2.2.1+(1:Int))),x.2.2.2.2))
 else
 none
 else
 some (.inr (x.1,x.2.2.2.2))
def Z7a:Ctx:={ tb:=mkTb T2.tbl,fx:=[(95,[],Zg2),(96,[],Zfw)],sum:=[],nt:=73,pin:=0,nr:=true,ys:=[] }
theorem Z5d:CSound Try.prog ⟨73,0,true⟩ (.loop (loopOf 8 Try.f79)) (Yby Zag Z9n (loop Z5c)) :=
 Y9b (C:=Z7a) (ctxOK mixed tbl_ok rfl ⟨Z1h,Z15,trivial⟩ trivial) (SumOK.of trivial) Zag Z9n rfl rfl Z5c (fun x=>by kernel_rfl)
abbrev Zbk:Shape:={ sl:=sl_8,bl:=[],ts:=ts_9,pin:=0 }
abbrev Zdt:Shape:={ sl:=sl_1,bl:=[],ts:=ts_0,pin:=0 }
def Z1e (x:T2):Option (Int) :=
 bif (decide (x.2 ≥ (2:Int))) then
 bif (decide (x.2 ≤ (7:Int))) then
 some (((List.length x.1):Nat):Int)
 else
 bif (x.2 == (8:Int)) then
 some (4:Int)
 else
 bif (x.2 == (9:Int)) then
 some (4:Int)
 else
 bif (decide (x.2 ≥ (16:Int))) then
 some (4:Int)
 else
 bif (decide (x.2 ≥ (10:Int))) then
 bif (decide (x.2 ≤ (15:Int))) then
 some (2:Int)
 else
 some (1:Int)
 else
 some (1:Int)
 else
 bif (x.2 == (8:Int)) then
 some (4:Int)
 else
 bif (x.2 == (9:Int)) then
 some (4:Int)
 else
 bif (decide (x.2 ≥ (16:Int))) then
 some (4:Int)
 else
 bif (decide (x.2 ≥ (10:Int))) then
 bif (decide (x.2 ≤ (15:Int))) then
 some (2:Int)
 else
 some (1:Int)
 else
 some (1:Int)
abbrev Zg1:=Spec.shp Zbk Zdt Z1e
def Z7b:Ctx:={ tb:=mkTb T2.tbl,fx:=[],sum:=[],nt:=29,pin:=0,nr:=true,ys:=[] }
theorem Z1f:Sound Try.prog 97 (Zg1) :=
 Sound.shp (C:=Z7b) (fn:=Try.f97) (by kernel_rfl) (c:=bodyOf Try.f97) (by kernel_rfl) (by decide) (ctxOK mixed tbl_ok rfl trivial trivial) (SumOK.of trivial) (by kernel_rfl) Zbk Zdt rfl (by decide) (by decide) rfl (by decide) rfl Z1e (fun x=>by kernel_rfl)
abbrev Zbj:Shape:={ sl:=sl_9,bl:=[],ts:=ts_10,pin:=0 }
abbrev Zds:Shape:={ sl:=sl_0,bl:=[],ts:=[.bool],pin:=0 }
def Z1c (x:T15):Option (Bool) :=
 bif (inb x.2.2 (List.length x.2.1)) then
 (Z1g (getAt ((0:Int),(0:Int),(0:Int),(0:Int),(0:Int)) x.2.1 (toN x.2.2)).2.1).bind fun r13 =>
 bif (Bool.not r13) then
 bif ((getAt ((0:Int),(0:Int),(0:Int),(0:Int),(0:Int)) x.2.1 (toN x.2.2)).2.2.2.1 != (0:Int)) then
 some true
 else
 (Z14 (getAt ((0:Int),(0:Int),(0:Int),(0:Int),(0:Int)) x.2.1 (toN x.2.2)).2.1).bind fun r14 =>
 bif (Bool.not r14) then
 bif ((getAt ((0:Int),(0:Int),(0:Int),(0:Int),(0:Int)) x.2.1 (toN x.2.2)).2.2.2.2 != (Int.negSucc 0)) then
 some true
 else
 bif ((getAt ((0:Int),(0:Int),(0:Int),(0:Int),(0:Int)) x.2.1 (toN x.2.2)).2.1 == (1:Int)) then
 bif (sub3 (0:Int) x.2.2 (List.length x.2.1)) then
 (loop Z5c ((0:Int),(cut x.2.1 (toN (0:Int)) ((toN x.2.2) - (toN (0:Int)))),(((List.length (cut x.2.1 (toN (0:Int)) ((toN x.2.2) - (toN (0:Int))))):Nat):Int),(0:Int),(getAt ((0:Int),(0:Int),(0:Int),(0:Int),(0:Int)) x.2.1 (toN x.2.2)))).bind fun r15 =>
 some (r15.2.2.2.1 != r15.1)
 else
 none
 else
 bif ((getAt ((0:Int),(0:Int),(0:Int),(0:Int),(0:Int)) x.2.1 (toN x.2.2)).2.1 != (0:Int)) then
 bif (decide ((getAt ((0:Int),(0:Int),(0:Int),(0:Int),(0:Int)) x.2.1 (toN x.2.2)).2.2.1 < (0:Int))) then
 some true
 else
 (Z1e (x.1,(getAt ((0:Int),(0:Int),(0:Int),(0:Int),(0:Int)) x.2.1 (toN x.2.2)).2.1)).bind fun r15 =>
 some (decide ((getAt ((0:Int),(0:Int),(0:Int),(0:Int),(0:Int)) x.2.1 (toN x.2.2)).2.2.1 ≥ r15))
 else
 some false
 else
 bif ((getAt ((0:Int),(0:Int),(0:Int),(0:Int),(0:Int)) x.2.1 (toN x.2.2)).2.1 == (1:Int)) then
 bif (sub3 (0:Int) x.2.2 (List.length x.2.1)) then
 (loop Z5c ((0:Int),(cut x.2.1 (toN (0:Int)) ((toN x.2.2) - (toN (0:Int)))),(((List.length (cut x.2.1 (toN (0:Int)) ((toN x.2.2) - (toN (0:Int))))):Nat):Int),(0:Int),(getAt ((0:Int),(0:Int),(0:Int),(0:Int),(0:Int)) x.2.1 (toN x.2.2)))).bind fun r15 =>
 some (r15.2.2.2.1 != r15.1)
 else
 none
 else
 bif ((getAt ((0:Int),(0:Int),(0:Int),(0:Int),(0:Int)) x.2.1 (toN x.2.2)).2.1 != (0:Int)) then
 bif (decide ((getAt ((0:Int),(0:Int),(0:Int),(0:Int),(0:Int)) x.2.1 (toN x.2.2)).2.2.1 < (0:Int))) then
 some true
 else
 (Z1e (x.1,(getAt ((0:Int),(0:Int),(0:Int),(0:Int),(0:Int)) x.2.1 (toN x.2.2)).2.1)).bind fun r15 =>
 some (decide ((getAt ((0:Int),(0:Int),(0:Int),(0:Int),(0:Int)) x.2.1 (toN x.2.2)).2.2.1 ≥ r15))
 else
 some false
 else
 (Z14 (getAt ((0:Int),(0:Int),(0:Int),(0:Int),(0:Int)) x.2.1 (toN x.2.2)).2.1).bind fun r14 =>
 bif (Bool.not r14) then
 bif ((getAt ((0:Int),(0:Int),(0:Int),(0:Int),(0:Int)) x.2.1 (toN x.2.2)).2.2.2.2 != (Int.negSucc 0)) then
 some true
 else
 bif ((getAt ((0:Int),(0:Int),(0:Int),(0:Int),(0:Int)) x.2.1 (toN x.2.2)).2.1 == (1:Int)) then
 bif (sub3 (0:Int) x.2.2 (List.length x.2.1)) then
 (loop Z5c ((0:Int),(cut x.2.1 (toN (0:Int)) ((toN x.2.2) - (toN (0:Int)))),(((List.length (cut x.2.1 (toN (0:Int)) ((toN x.2.2) - (toN (0:Int))))):Nat):Int),(0:Int),(getAt ((0:Int),(0:Int),(0:Int),(0:Int),(0:Int)) x.2.1 (toN x.2.2)))).bind fun r15 =>
 some (r15.2.2.2.1 != r15.1)
 else
 none
 else
 bif ((getAt ((0:Int),(0:Int),(0:Int),(0:Int),(0:Int)) x.2.1 (toN x.2.2)).2.1 != (0:Int)) then
 bif (decide ((getAt ((0:Int),(0:Int),(0:Int),(0:Int),(0:Int)) x.2.1 (toN x.2.2)).2.2.1 < (0:Int))) then
 some true
 else
 (Z1e (x.1,(getAt ((0:Int),(0:Int),(0:Int),(0:Int),(0:Int)) x.2.1 (toN x.2.2)).2.1)).bind fun r15 =>
 some (decide ((getAt ((0:Int),(0:Int),(0:Int),(0:Int),(0:Int)) x.2.1 (toN x.2.2)).2.2.1 ≥ r15))
 else
 some false
 else
 bif ((getAt ((0:Int),(0:Int),(0:Int),(0:Int),(0:Int)) x.2.1 (toN x.2.2)).2.1 == (1:Int)) then
 bif (sub3 (0:Int) x.2.2 (List.length x.2.1)) then
 (loop Z5c ((0:Int),(cut x.2.1 (toN (0:Int)) ((toN x.2.2) - (toN (0:Int)))),(((List.length (cut x.2.1 (toN (0:Int)) ((toN x.2.2) - (toN (0:Int))))):Nat):Int),(0:Int),(getAt ((0:Int),(0:Int),(0:Int),(0:Int),(0:Int)) x.2.1 (toN x.2.2)))).bind fun r15 =>
 some (r15.2.2.2.1 != r15.1)
 else
 none
 else
 bif ((getAt ((0:Int),(0:Int),(0:Int),(0:Int),(0:Int)) x.2.1 (toN x.2.2)).2.1 != (0:Int)) then
 bif (decide ((getAt ((0:Int),(0:Int),(0:Int),(0:Int),(0:Int)) x.2.1 (toN x.2.2)).2.2.1 < (0:Int))) then
 some true
 else
 (Z1e (x.1,(getAt ((0:Int),(0:Int),(0:Int),(0:Int),(0:Int)) x.2.1 (toN x.2.2)).2.1)).bind fun r15 =>
 some (decide ((getAt ((0:Int),(0:Int),(0:Int),(0:Int),(0:Int)) x.2.1 (toN x.2.2)).2.2.1 ≥ r15))
 else
 some false
 else
 none
abbrev Zg0:=Spec.shp Zbj Zds Z1c
def Z79:Ctx:={ tb:=mkTb T2.tbl,fx:=[(95,[],Zg2),(96,[],Zfw),(97,[],Zg1)],sum:=[(0,8,Yby Zag Z9n (loop Z5c))],nt:=73,pin:=0,nr:=true,ys:=[] }
theorem Z1d:Sound Try.prog 79 (Zg0) :=
 Sound.shp (C:=Z79) (fn:=Try.f79) (by kernel_rfl) (c:=bodyOf Try.f79) (by kernel_rfl) (by decide) (ctxOK mixed tbl_ok rfl ⟨Z1h,Z15,Z1f,trivial⟩ trivial) (SumOK.of ⟨(Ybz (d:=.loop (loopOf 8 Try.f79)) (by kernel_rfl) Z5d),trivial⟩) (by kernel_rfl) Zbj Zds rfl (by decide) (by decide) rfl (by decide) rfl Z1c (fun x=>by kernel_rfl)
abbrev Zbm:Shape:={ sl:=sl_1,bl:=[],ts:=ts_0,pin:=0 }
abbrev Zdv:Shape:={ sl:=sl_1,bl:=[],ts:=ts_0,pin:=0 }
def Z1i (x:(Int)):Option (Int) :=
 bif (x == (3:Int)) then
 some (2:Int)
 else
 bif (x == (5:Int)) then
 some (4:Int)
 else
 bif (x == (6:Int)) then
 some (4:Int)
 else
 bif (x == (9:Int)) then
 some (8:Int)
 else
 bif (x == (11:Int)) then
 some (10:Int)
 else
 some (13:Int)
abbrev Zg3:=Spec.shp Zbm Zdv Z1i
def Z7d:Ctx:={ tb:=mkTb T2.tbl,fx:=[],sum:=[],nt:=15,pin:=0,nr:=true,ys:=[] }
theorem Z1j:Sound Try.prog 98 (Zg3) :=
 Sound.shp (C:=Z7d) (fn:=Try.f98) (by kernel_rfl) (c:=bodyOf Try.f98) (by kernel_rfl) (by decide) (ctxOK mixed tbl_ok rfl trivial trivial) (SumOK.of trivial) (by kernel_rfl) Zbm Zdv rfl (by decide) (by decide) rfl (by decide) rfl Z1i (fun x=>by kernel_rfl)
abbrev Zbe:Shape:={ sl:=sl_10,bl:=[],ts:=[y13,(.int .i64)],pin:=0 }
abbrev Zdn:Shape:={ sl:=sl_0,bl:=[],ts:=[.bool],pin:=0 }
def Z12 (x:T13):Option (Bool) :=
 bif (inb x.2 (List.length x.1)) then
 bif ((getAt ((0:Int),(0:Int),(0:Int),(0:Int),(0:Int)) x.1 (toN x.2)).2.1 == (0:Int)) then
 some false
 else
 (Z14 (getAt ((0:Int),(0:Int),(0:Int),(0:Int),(0:Int)) x.1 (toN x.2)).2.1).bind fun r14 =>
 bif (Bool.not r14) then
 some false
 else
 bif (decide ((getAt ((0:Int),(0:Int),(0:Int),(0:Int),(0:Int)) x.1 (toN x.2)).2.2.2.2 < (0:Int))) then
 some true
 else
 (Zw (x.1,x.2)).bind fun r15 =>
 bif ((getAt ((0:Int),(0:Int),(0:Int),(0:Int),(0:Int)) x.1 (toN x.2)).2.2.2.2 != r15) then
 some true
 else
 bif (inb (getAt ((0:Int),(0:Int),(0:Int),(0:Int),(0:Int)) x.1 (toN x.2)).2.2.2.2 (List.length x.1)) then
 bif (decide ((getAt ((0:Int),(0:Int),(0:Int),(0:Int),(0:Int)) x.1 (toN x.2)).2.1 ≤ (6:Int))) then
 bif ((getAt ((0:Int),(0:Int),(0:Int),(0:Int),(0:Int)) x.1 (toN (getAt ((0:Int),(0:Int),(0:Int),(0:Int),(0:Int)) x.1 (toN x.2)).2.2.2.2)).2.1 == (8:Int)) then
 some false
 else
 (Z1i (getAt ((0:Int),(0:Int),(0:Int),(0:Int),(0:Int)) x.1 (toN x.2)).2.1).bind fun r16 =>
 bif ((getAt ((0:Int),(0:Int),(0:Int),(0:Int),(0:Int)) x.1 (toN (getAt ((0:Int),(0:Int),(0:Int),(0:Int),(0:Int)) x.1 (toN x.2)).2.2.2.2)).2.1 != r16) then
 some true
 else
 some ((getAt ((0:Int),(0:Int),(0:Int),(0:Int),(0:Int)) x.1 (toN (getAt ((0:Int),(0:Int),(0:Int),(0:Int),(0:Int)) x.1 (toN x.2)).2.2.2.2)).2.2.1 != (getAt ((0:Int),(0:Int),(0:Int),(0:Int),(0:Int)) x.1 (toN x.2)).2.2.1)
 else
 (Z1i (getAt ((0:Int),(0:Int),(0:Int),(0:Int),(0:Int)) x.1 (toN x.2)).2.1).bind fun r16 =>
 bif ((getAt ((0:Int),(0:Int),(0:Int),(0:Int),(0:Int)) x.1 (toN (getAt ((0:Int),(0:Int),(0:Int),(0:Int),(0:Int)) x.1 (toN x.2)).2.2.2.2)).2.1 != r16) then
 some true
 else
 some ((getAt ((0:Int),(0:Int),(0:Int),(0:Int),(0:Int)) x.1 (toN (getAt ((0:Int),(0:Int),(0:Int),(0:Int),(0:Int)) x.1 (toN x.2)).2.2.2.2)).2.2.1 != (getAt ((0:Int),(0:Int),(0:Int),(0:Int),(0:Int)) x.1 (toN x.2)).2.2.1)
 else
 none
 else
 none
abbrev Zfv:=Spec.shp Zbe Zdn Z12
def Z73:Ctx:={ tb:=mkTb T2.tbl,fx:=[(96,[],Zfw),(43,[],Zfs),(98,[],Zg3)],sum:=[],nt:=57,pin:=0,nr:=true,ys:=[] }
theorem Z13:Sound Try.prog 80 (Zfv) :=
 Sound.shp (C:=Z73) (fn:=Try.f80) (by kernel_rfl) (c:=bodyOf Try.f80) (by kernel_rfl) (by decide) (ctxOK mixed tbl_ok rfl ⟨Z15,Zx,Z1j,trivial⟩ trivial) (SumOK.of trivial) (by kernel_rfl) Zbe Zdn rfl (by decide) (by decide) rfl (by decide) rfl Z12 (fun x=>by kernel_rfl)
abbrev Zac:Shape:={ sl:=[(2,(.hole (.int .i64))),(3,(.hole (.int .i64))),(9,(.hole (.int .i64))),(14,(.hole y13)),(15,(.hole (.int .i64))),(16,(.hole (.int .i64)))],bl:=[],ts:=ts_11,pin:=0 }
abbrev Z9j:List (ETag × Shape):=[(.exit 0,{ sl:=[(9,(.hole (.int .i64)))],bl:=[],ts:=ts_0,pin:=0 })]
def Z54 (x:T16):Option (T16 ⊕ (Int)) :=
 bif (decide (x.2.2.2.2.2 < x.2.2.2.2.1)) then
 bif (inb x.2.2.2.2.2 (List.length x.2.2.2.1)) then
 bif ((getAt ((0:Int),(0:Int),(0:Int),(0:Int),(0:Int)) x.2.2.2.1 (toN x.2.2.2.2.2)).2.1 == x.1) then
 bif ((getAt ((0:Int),(0:Int),(0:Int),(0:Int),(0:Int)) x.2.2.2.1 (toN x.2.2.2.2.2)).2.2.1 == x.2.1) then
 some (.inl (x.1,x.2.1,(IntKind.wrap .i64 (x.2.2.1+(1:Int))),x.2.2.2.1,x.2.2.2.2.1,(IntKind.wrap .i64 (x.2.2.2.2.2+(1:Int)))))
 else
 some (.inl (x.1,x.2.1,x.2.2.1,x.2.2.2.1,x.2.2.2.2.1,(IntKind.wrap .i64 (x.2.2.2.2.2+(1:Int)))))
 else
 some (.inl (x.1,x.2.1,x.2.2.1,x.2.2.2.1,x.2.2.2.2.1,(IntKind.wrap .i64 (x.2.2.2.2.2+(1:Int)))))
 else
 none
 else
 some (.inr x.2.2.1)
def Z6x:Ctx:={ tb:=mkTb T2.tbl,fx:=[],sum:=[],nt:=34,pin:=0,nr:=true,ys:=[] }
theorem Z55:CSound Try.prog ⟨34,0,true⟩ (.loop (loopOf 4 Try.f99)) (Yby Zac Z9j (loop Z54)) :=
 Y9b (C:=Z6x) (ctxOK mixed tbl_ok rfl trivial trivial) (SumOK.of trivial) Zac Z9j rfl rfl Z54 (fun x=>by kernel_rfl)
abbrev Zba:Shape:={ sl:=sl_11,bl:=[],ts:=[y13,(.int .i64),(.int .i64),(.int .i64)],pin:=0 }
abbrev Zdj:Shape:={ sl:=sl_1,bl:=[],ts:=ts_0,pin:=0 }
def Zu (x:(List (T9) × Int × Int × Int)):Option (Int) :=
 bif (sub3 (0:Int) x.2.1 (List.length x.1)) then
 (loop Z54 (x.2.2.1,x.2.2.2,(0:Int),(cut x.1 (toN (0:Int)) ((toN x.2.1) - (toN (0:Int)))),(((List.length (cut x.1 (toN (0:Int)) ((toN x.2.1) - (toN (0:Int))))):Nat):Int),(0:Int))).bind fun r16 =>
 some r16
 else
 none
abbrev Zfr:=Spec.shp Zba Zdj Zu
def Z6w:Ctx:={ tb:=mkTb T2.tbl,fx:=[],sum:=[(0,4,Yby Zac Z9j (loop Z54))],nt:=34,pin:=0,nr:=true,ys:=[] }
theorem Zv:Sound Try.prog 99 (Zfr) :=
 Sound.shp (C:=Z6w) (fn:=Try.f99) (by kernel_rfl) (c:=bodyOf Try.f99) (by kernel_rfl) (by decide) (ctxOK mixed tbl_ok rfl trivial trivial) (SumOK.of ⟨(Ybz (d:=.loop (loopOf 4 Try.f99)) (by kernel_rfl) Z55),trivial⟩) (by kernel_rfl) Zba Zdj rfl (by decide) (by decide) rfl (by decide) rfl Zu (fun x=>by kernel_rfl)
abbrev Zbh:Shape:={ sl:=sl_9,bl:=[],ts:=ts_10,pin:=0 }
abbrev Zdq:Shape:={ sl:=sl_0,bl:=[],ts:=[.bool],pin:=0 }
def Z18 (x:T15):Option (Bool) :=
 bif (inb x.2.2 (List.length x.2.1)) then
 bif ((getAt ((0:Int),(0:Int),(0:Int),(0:Int),(0:Int)) x.2.1 (toN x.2.2)).2.1 != (3:Int)) then
 bif (decide ((getAt ((0:Int),(0:Int),(0:Int),(0:Int),(0:Int)) x.2.1 (toN x.2.2)).2.1 < (5:Int))) then
 some false
 else
 bif (decide ((getAt ((0:Int),(0:Int),(0:Int),(0:Int),(0:Int)) x.2.1 (toN x.2.2)).2.1 > (7:Int))) then
 some false
 else
 (Zu (x.2.1,x.2.2,(3:Int),(getAt ((0:Int),(0:Int),(0:Int),(0:Int),(0:Int)) x.2.1 (toN x.2.2)).2.2.1)).bind fun r15 =>
 (Zu (x.2.1,x.2.2,(5:Int),(getAt ((0:Int),(0:Int),(0:Int),(0:Int),(0:Int)) x.2.1 (toN x.2.2)).2.2.1)).bind fun r16 =>
 (Zu (x.2.1,x.2.2,(7:Int),(getAt ((0:Int),(0:Int),(0:Int),(0:Int),(0:Int)) x.2.1 (toN x.2.2)).2.2.1)).bind fun r17 =>
 bif (inb (getAt ((0:Int),(0:Int),(0:Int),(0:Int),(0:Int)) x.2.1 (toN x.2.2)).2.2.1 (List.length x.1)) then
 bif (decide ((getAt (0:Int) x.1 (toN (getAt ((0:Int),(0:Int),(0:Int),(0:Int),(0:Int)) x.2.1 (toN x.2.2)).2.2.1)) < (0:Int))) then
 some true
 else
 bif ((getAt ((0:Int),(0:Int),(0:Int),(0:Int),(0:Int)) x.2.1 (toN x.2.2)).2.1 == (3:Int)) then
 bif (decide (r17 > (0:Int))) then
 some true
 else
 bif ((getAt ((0:Int),(0:Int),(0:Int),(0:Int),(0:Int)) x.2.1 (toN x.2.2)).2.2.2.1 != r15) then
 some true
 else
 bif (inb (getAt ((0:Int),(0:Int),(0:Int),(0:Int),(0:Int)) x.2.1 (toN x.2.2)).2.2.1 (List.length x.1)) then
 some (decide ((getAt ((0:Int),(0:Int),(0:Int),(0:Int),(0:Int)) x.2.1 (toN x.2.2)).2.2.2.1 > (IntKind.wrap .i64 (r16+(getAt (0:Int) x.1 (toN (getAt ((0:Int),(0:Int),(0:Int),(0:Int),(0:Int)) x.2.1 (toN x.2.2)).2.2.1))))))
 else
 none
 else
 bif ((getAt ((0:Int),(0:Int),(0:Int),(0:Int),(0:Int)) x.2.1 (toN x.2.2)).2.1 == (5:Int)) then
 bif ((getAt ((0:Int),(0:Int),(0:Int),(0:Int),(0:Int)) x.2.1 (toN x.2.2)).2.2.2.1 != r16) then
 some true
 else
 some (decide ((getAt ((0:Int),(0:Int),(0:Int),(0:Int),(0:Int)) x.2.1 (toN x.2.2)).2.2.2.1 > r15))
 else
 bif ((getAt ((0:Int),(0:Int),(0:Int),(0:Int),(0:Int)) x.2.1 (toN x.2.2)).2.1 == (6:Int)) then
 bif (Bool.not (decide (r17 > (0:Int)))) then
 some true
 else
 some (r15 != r16)
 else
 some (decide (r17 > (0:Int)))
 else
 none
 else
 (Zu (x.2.1,x.2.2,(3:Int),(getAt ((0:Int),(0:Int),(0:Int),(0:Int),(0:Int)) x.2.1 (toN x.2.2)).2.2.1)).bind fun r15 =>
 (Zu (x.2.1,x.2.2,(5:Int),(getAt ((0:Int),(0:Int),(0:Int),(0:Int),(0:Int)) x.2.1 (toN x.2.2)).2.2.1)).bind fun r16 =>
 (Zu (x.2.1,x.2.2,(7:Int),(getAt ((0:Int),(0:Int),(0:Int),(0:Int),(0:Int)) x.2.1 (toN x.2.2)).2.2.1)).bind fun r17 =>
 bif (inb (getAt ((0:Int),(0:Int),(0:Int),(0:Int),(0:Int)) x.2.1 (toN x.2.2)).2.2.1 (List.length x.1)) then
 bif (decide ((getAt (0:Int) x.1 (toN (getAt ((0:Int),(0:Int),(0:Int),(0:Int),(0:Int)) x.2.1 (toN x.2.2)).2.2.1)) < (0:Int))) then
 some true
 else
 bif ((getAt ((0:Int),(0:Int),(0:Int),(0:Int),(0:Int)) x.2.1 (toN x.2.2)).2.1 == (3:Int)) then
 bif (decide (r17 > (0:Int))) then
 some true
 else
 bif ((getAt ((0:Int),(0:Int),(0:Int),(0:Int),(0:Int)) x.2.1 (toN x.2.2)).2.2.2.1 != r15) then
 some true
 else
 bif (inb (getAt ((0:Int),(0:Int),(0:Int),(0:Int),(0:Int)) x.2.1 (toN x.2.2)).2.2.1 (List.length x.1)) then
 some (decide ((getAt ((0:Int),(0:Int),(0:Int),(0:Int),(0:Int)) x.2.1 (toN x.2.2)).2.2.2.1 > (IntKind.wrap .i64 (r16+(getAt (0:Int) x.1 (toN (getAt ((0:Int),(0:Int),(0:Int),(0:Int),(0:Int)) x.2.1 (toN x.2.2)).2.2.1))))))
 else
 none
 else
 bif ((getAt ((0:Int),(0:Int),(0:Int),(0:Int),(0:Int)) x.2.1 (toN x.2.2)).2.1 == (5:Int)) then
 bif ((getAt ((0:Int),(0:Int),(0:Int),(0:Int),(0:Int)) x.2.1 (toN x.2.2)).2.2.2.1 != r16) then
 some true
 else
 some (decide ((getAt ((0:Int),(0:Int),(0:Int),(0:Int),(0:Int)) x.2.1 (toN x.2.2)).2.2.2.1 > r15))
 else
 bif ((getAt ((0:Int),(0:Int),(0:Int),(0:Int),(0:Int)) x.2.1 (toN x.2.2)).2.1 == (6:Int)) then
 bif (Bool.not (decide (r17 > (0:Int)))) then
 some true
 else
 some (r15 != r16)
 else
 some (decide (r17 > (0:Int)))
 else
 none
 else
 none
abbrev Zfy:=Spec.shp Zbh Zdq Z18
def Z76:Ctx:={ tb:=mkTb T2.tbl,fx:=[(99,[],Zfr)],sum:=[],nt:=96,pin:=0,nr:=true,ys:=[] }
theorem Z19:Sound Try.prog 81 (Zfy) :=
 Sound.shp (C:=Z76) (fn:=Try.f81) (by kernel_rfl) (c:=bodyOf Try.f81) (by kernel_rfl) (by decide) (ctxOK mixed tbl_ok rfl ⟨Zv,trivial⟩ trivial) (SumOK.of trivial) (by kernel_rfl) Zbh Zdq rfl (by decide) (by decide) rfl (by decide) rfl Z18 (fun x=>by kernel_rfl)
abbrev Zaf:Shape:={ sl:=[(0,(.hole y13)),(1,(.hole (.int .i64))),(5,(.ptr 0 [])),(23,(.hole y13)),(24,(.hole (.int .i64))),(25,(.hole (.int .i64)))],bl:=[.var (.hole y12)],ts:=[y13,(.int .i64),y13,(.int .i64),(.int .i64),y12],pin:=0 }
abbrev Z9m:List (ETag × Shape):=[(.ret,{ sl:=[(4,(.hole .bool))],bl:=[],ts:=[.bool],pin:=0 }),(.exit 0,{ sl:=[],bl:=[],ts:=[],pin:=0 })]
def Z5a (x:(List (T9) × Int × List (T9) × Int × Int × T9)):Option ((List (T9) × Int × List (T9) × Int × Int × T9) ⊕ ((Bool) ⊕ Unit)) :=
 bif (decide (x.2.2.2.2.1 < x.2.2.2.1)) then
 bif (inb x.2.2.2.2.1 (List.length x.2.2.1)) then
 bif ((getAt ((0:Int),(0:Int),(0:Int),(0:Int),(0:Int)) x.2.2.1 (toN x.2.2.2.2.1)).2.1 == (13:Int)) then
 bif ((getAt ((0:Int),(0:Int),(0:Int),(0:Int),(0:Int)) x.2.2.1 (toN x.2.2.2.2.1)).2.2.1 == x.2.2.2.2.2.2.2.1) then
 bif ((getAt ((0:Int),(0:Int),(0:Int),(0:Int),(0:Int)) x.2.2.1 (toN x.2.2.2.2.1)).1 != x.2.2.2.2.2.1) then
 some (.inr (.inl true))
 else
 (Zu (x.1,x.2.1,(14:Int),x.2.2.2.2.2.2.2.1)).bind fun r20 =>
 some (.inr (.inl (decide (r20 > (0:Int)))))
 else
 some (.inl (x.1,x.2.1,x.2.2.1,x.2.2.2.1,(IntKind.wrap .i64 (x.2.2.2.2.1+(1:Int))),x.2.2.2.2.2))
 else
 some (.inl (x.1,x.2.1,x.2.2.1,x.2.2.2.1,(IntKind.wrap .i64 (x.2.2.2.2.1+(1:Int))),x.2.2.2.2.2))
 else
 none
 else
 some (.inr (.inr ()))
def Z78:Ctx:={ tb:=mkTb T2.tbl,fx:=[(99,[],Zfr)],sum:=[],nt:=53,pin:=0,nr:=true,ys:=[] }
theorem Z5b:CSound Try.prog ⟨53,0,true⟩ (.loop (loopOf 6 Try.f100)) (Yby Zaf Z9m (loop Z5a)) :=
 Y9b (C:=Z78) (ctxOK mixed tbl_ok rfl ⟨Zv,trivial⟩ trivial) (SumOK.of trivial) Zaf Z9m rfl rfl Z5a (fun x=>by kernel_rfl)
abbrev Zbi:Shape:={ sl:=sl_10,bl:=[],ts:=[y13,(.int .i64)],pin:=0 }
abbrev Zdr:Shape:={ sl:=sl_0,bl:=[],ts:=[.bool],pin:=0 }
def Z1a (x:T13):Option (Bool) :=
 bif (inb x.2 (List.length x.1)) then
 bif ((getAt ((0:Int),(0:Int),(0:Int),(0:Int),(0:Int)) x.1 (toN x.2)).2.1 == (15:Int)) then
 (Zu (x.1,x.2,(14:Int),(getAt ((0:Int),(0:Int),(0:Int),(0:Int),(0:Int)) x.1 (toN x.2)).2.2.1)).bind fun r19 =>
 some (r19 == (0:Int))
 else
 bif (sub3 (0:Int) x.2 (List.length x.1)) then
 (loop Z5a (x.1,x.2,(cut x.1 (toN (0:Int)) ((toN x.2) - (toN (0:Int)))),(((List.length (cut x.1 (toN (0:Int)) ((toN x.2) - (toN (0:Int))))):Nat):Int),(0:Int),(getAt ((0:Int),(0:Int),(0:Int),(0:Int),(0:Int)) x.1 (toN x.2)))).bind fun r19 =>
 match r19 with
 | .inl y20 =>
 some y20
 | .inr y20 =>
 some true
 else
 none
 else
 none
abbrev Zfz:=Spec.shp Zbi Zdr Z1a
def Z77:Ctx:={ tb:=mkTb T2.tbl,fx:=[(99,[],Zfr)],sum:=[(0,6,Yby Zaf Z9m (loop Z5a))],nt:=53,pin:=0,nr:=true,ys:=[] }
theorem Z1b:Sound Try.prog 100 (Zfz) :=
 Sound.shp (C:=Z77) (fn:=Try.f100) (by kernel_rfl) (c:=bodyOf Try.f100) (by kernel_rfl) (by decide) (ctxOK mixed tbl_ok rfl ⟨Zv,trivial⟩ trivial) (SumOK.of ⟨(Ybz (d:=.loop (loopOf 6 Try.f100)) (by kernel_rfl) Z5b),trivial⟩) (by kernel_rfl) Zbi Zdr rfl (by decide) (by decide) rfl (by decide) rfl Z1a (fun x=>by kernel_rfl)
abbrev Zbo:Shape:={ sl:=sl_10,bl:=[],ts:=[y13,(.int .i64)],pin:=0 }
abbrev Zdx:Shape:={ sl:=sl_0,bl:=[],ts:=[.bool],pin:=0 }
def Z1m (x:T13):Option (Bool) :=
 bif (inb x.2 (List.length x.1)) then
 (Zu (x.1,x.2,(11:Int),(getAt ((0:Int),(0:Int),(0:Int),(0:Int),(0:Int)) x.1 (toN x.2)).2.2.1)).bind fun r16 =>
 (Zu (x.1,x.2,(12:Int),(getAt ((0:Int),(0:Int),(0:Int),(0:Int),(0:Int)) x.1 (toN x.2)).2.2.1)).bind fun r17 =>
 bif ((getAt ((0:Int),(0:Int),(0:Int),(0:Int),(0:Int)) x.1 (toN x.2)).2.1 == (11:Int)) then
 some ((IntKind.wrap .i64 (r16 - r17)) != (0:Int))
 else
 bif ((getAt ((0:Int),(0:Int),(0:Int),(0:Int),(0:Int)) x.1 (toN x.2)).2.1 == (12:Int)) then
 some ((IntKind.wrap .i64 (r16 - r17)) != (1:Int))
 else
 bif ((getAt ((0:Int),(0:Int),(0:Int),(0:Int),(0:Int)) x.1 (toN x.2)).2.1 == (14:Int)) then
 (Z1a (x.1,x.2)).bind fun r18 =>
 some r18
 else
 bif ((getAt ((0:Int),(0:Int),(0:Int),(0:Int),(0:Int)) x.1 (toN x.2)).2.1 == (15:Int)) then
 (Z1a (x.1,x.2)).bind fun r18 =>
 some r18
 else
 some false
 else
 none
abbrev Zg5:=Spec.shp Zbo Zdx Z1m
def Z7f:Ctx:={ tb:=mkTb T2.tbl,fx:=[(99,[],Zfr),(100,[],Zfz)],sum:=[],nt:=45,pin:=0,nr:=true,ys:=[] }
theorem Z1n:Sound Try.prog 82 (Zg5) :=
 Sound.shp (C:=Z7f) (fn:=Try.f82) (by kernel_rfl) (c:=bodyOf Try.f82) (by kernel_rfl) (by decide) (ctxOK mixed tbl_ok rfl ⟨Zv,Z1b,trivial⟩ trivial) (SumOK.of trivial) (by kernel_rfl) Zbo Zdx rfl (by decide) (by decide) rfl (by decide) rfl Z1m (fun x=>by kernel_rfl)
abbrev Zbd:Shape:={ sl:=sl_9,bl:=[],ts:=ts_10,pin:=0 }
abbrev Zdm:Shape:={ sl:=sl_0,bl:=[],ts:=[.bool],pin:=0 }
def Z10 (x:T15):Option (Bool) :=
 (Z1k (x.2.1,x.2.2)).bind fun r10 =>
 bif r10 then
 some true
 else
 (Z16 (x.2.1,x.2.2)).bind fun r11 =>
 bif r11 then
 some true
 else
 (Z1c (x.1,x.2.1,x.2.2)).bind fun r12 =>
 bif r12 then
 some true
 else
 (Z12 (x.2.1,x.2.2)).bind fun r13 =>
 bif r13 then
 some true
 else
 (Z18 (x.1,x.2.1,x.2.2)).bind fun r14 =>
 bif r14 then
 some true
 else
 (Z1m (x.2.1,x.2.2)).bind fun r15 =>
 some r15
abbrev Zfu:=Spec.shp Zbd Zdm Z10
def Z72:Ctx:={ tb:=mkTb T2.tbl,fx:=[(77,[],Zg4),(78,[],Zfx),(79,[],Zg0),(80,[],Zfv),(81,[],Zfy),(82,[],Zg5)],sum:=[],nt:=37,pin:=0,nr:=true,ys:=[] }
theorem Z11:Sound Try.prog 42 (Zfu) :=
 Sound.shp (C:=Z72) (fn:=Try.f42) (by kernel_rfl) (c:=bodyOf Try.f42) (by kernel_rfl) (by decide) (ctxOK mixed tbl_ok rfl ⟨Z1l,Z17,Z1d,Z13,Z19,Z1n,trivial⟩ trivial) (SumOK.of trivial) (by kernel_rfl) Zbd Zdm rfl (by decide) (by decide) rfl (by decide) rfl Z10 (fun x=>by kernel_rfl)
abbrev Zae:Shape:={ sl:=[(0,(.hole y0)),(1,(.hole y13)),(7,(.hole (.int .i64))),(8,(.hole (.int .i64)))],bl:=[],ts:=[y0,y13,(.int .i64),(.int .i64)],pin:=0 }
abbrev Z9l:List (ETag × Shape):=[(.ret,{ sl:=[(4,(.hole (.int .i64)))],bl:=[],ts:=ts_0,pin:=0 }),(.exit 0,{ sl:=[],bl:=[],ts:=[],pin:=0 })]
def Z58 (x:(List Int × List (T9) × Int × Int)):Option ((List Int × List (T9) × Int × Int) ⊕ ((Int) ⊕ Unit)) :=
 bif (decide (x.2.2.2 < x.2.2.1)) then
 (Z10 (x.1,x.2.1,x.2.2.2)).bind fun r9 =>
 bif r9 then
 some (.inr (.inl x.2.2.2))
 else
 some (.inl (x.1,x.2.1,x.2.2.1,(IntKind.wrap .i64 (x.2.2.2+(1:Int)))))
 else
 some (.inr (.inr ()))
def Z71:Ctx:={ tb:=mkTb T2.tbl,fx:=[(42,[],Zfu)],sum:=[],nt:=17,pin:=0,nr:=true,ys:=[] }
theorem Z59:CSound Try.prog ⟨17,0,true⟩ (.loop (loopOf 3 Try.f26)) (Yby Zae Z9l (loop Z58)) :=
 Y9b (C:=Z71) (ctxOK mixed tbl_ok rfl ⟨Z11,trivial⟩ trivial) (SumOK.of trivial) Zae Z9l rfl rfl Z58 (fun x=>by kernel_rfl)
abbrev Zbc:Shape:={ sl:=sl_5,bl:=[],ts:=[y0,y13],pin:=0 }
abbrev Zdl:Shape:={ sl:=sl_1,bl:=[],ts:=ts_0,pin:=0 }
def Zy (x:T14):Option (Int) :=
 (loop Z58 (x.1,x.2,(((List.length x.2):Nat):Int),(0:Int))).bind fun r8 =>
 match r8 with
 | .inl y9 =>
 some y9
 | .inr y9 =>
 some (Int.negSucc 0)
abbrev Zft:=Spec.shp Zbc Zdl Zy
def Z70:Ctx:={ tb:=mkTb T2.tbl,fx:=[(42,[],Zfu)],sum:=[(0,3,Yby Zae Z9l (loop Z58))],nt:=17,pin:=0,nr:=true,ys:=[] }
theorem Zz:Sound Try.prog 26 (Zft) :=
 Sound.shp (C:=Z70) (fn:=Try.f26) (by kernel_rfl) (c:=bodyOf Try.f26) (by kernel_rfl) (by decide) (ctxOK mixed tbl_ok rfl ⟨Z11,trivial⟩ trivial) (SumOK.of ⟨(Ybz (d:=.loop (loopOf 3 Try.f26)) (by kernel_rfl) Z59),trivial⟩) (by kernel_rfl) Zbc Zdl rfl (by decide) (by decide) rfl (by decide) rfl Zy (fun x=>by kernel_rfl)
abbrev Zbp:Shape:={ sl:=sl_5,bl:=[],ts:=[y0,y13],pin:=0 }
abbrev Zdy:Shape:={ sl:=sl_0,bl:=[],ts:=[.bool],pin:=0 }
def Z1o (x:T14):Option (Bool) :=
 (Zs x.1).bind fun r6 =>
 bif r6 then
 (Zy (x.1,x.2)).bind fun r7 =>
 some (decide (r7 < (0:Int)))
 else
 some false
abbrev Zg6:=Spec.shp Zbp Zdy Z1o
def Z7g:Ctx:={ tb:=mkTb T2.tbl,fx:=[(25,[],Zfq),(26,[],Zft)],sum:=[],nt:=13,pin:=0,nr:=true,ys:=[] }
theorem Z1p:Sound Try.prog 8 (Zg6) :=
 Sound.shp (C:=Z7g) (fn:=Try.f8) (by kernel_rfl) (c:=bodyOf Try.f8) (by kernel_rfl) (by decide) (ctxOK mixed tbl_ok rfl ⟨Zt,Zz,trivial⟩ trivial) (SumOK.of trivial) (by kernel_rfl) Zbp Zdy rfl (by decide) (by decide) rfl (by decide) rfl Z1o (fun x=>by kernel_rfl)
abbrev Za7:Shape:={ sl:=[(0,(.hole y0)),(1,(.hole y0)),(12,(.hole (.int .i64))),(13,(.hole (.int .i64)))],bl:=[],ts:=[y0,y0,(.int .i64),(.int .i64)],pin:=0 }
abbrev Z9e:List (ETag × Shape):=[(.ret,{ sl:=[(4,(.hole .bool))],bl:=[],ts:=[.bool],pin:=0 }),(.exit 0,{ sl:=[],bl:=[],ts:=[],pin:=0 })]
def Z4u (x:T8):Option (T8 ⊕ ((Bool) ⊕ Unit)) :=
 bif (decide (x.2.2.2 < x.2.2.1)) then
 bif (inb x.2.2.2 (List.length x.1)) then
 bif (inb x.2.2.2 (List.length x.2.1)) then
 bif ((getAt (0:Int) x.1 (toN x.2.2.2)) != (getAt (0:Int) x.2.1 (toN x.2.2.2))) then
 some (.inr (.inl false))
 else
 some (.inl (x.1,x.2.1,x.2.2.1,(IntKind.wrap .i64 (x.2.2.2+(1:Int)))))
 else
 none
 else
 none
 else
 some (.inr (.inr ()))
def Z6o:Ctx:={ tb:=mkTb T2.tbl,fx:=[],sum:=[],nt:=26,pin:=0,nr:=true,ys:=[] }
theorem Z4v:CSound Try.prog ⟨26,0,true⟩ (.loop (loopOf 5 Try.f10)) (Yby Za7 Z9e (loop Z4u)) :=
 Y9b (C:=Z6o) (ctxOK mixed tbl_ok rfl trivial trivial) (SumOK.of trivial) Za7 Z9e rfl rfl Z4u (fun x=>by kernel_rfl)
abbrev Zb6:Shape:={ sl:=[(0,(.hole y0)),(1,(.hole y0))],bl:=[],ts:=[y0,y0],pin:=0 }
abbrev Zdf:Shape:={ sl:=sl_0,bl:=[],ts:=[.bool],pin:=0 }
def Zm (x:T5):Option (Bool) :=
 bif ((((List.length x.1):Nat):Int) != (((List.length x.2):Nat):Int)) then
 some false
 else
 (loop Z4u (x.1,x.2,(((List.length x.1):Nat):Int),(0:Int))).bind fun r9 =>
 match r9 with
 | .inl y10 =>
 some y10
 | .inr y10 =>
 some true
abbrev Zfn:=Spec.shp Zb6 Zdf Zm
def Z6n:Ctx:={ tb:=mkTb T2.tbl,fx:=[],sum:=[(0,5,Yby Za7 Z9e (loop Z4u))],nt:=26,pin:=0,nr:=true,ys:=[] }
theorem Zn:Sound Try.prog 10 (Zfn) :=
 Sound.shp (C:=Z6n) (fn:=Try.f10) (by kernel_rfl) (c:=bodyOf Try.f10) (by kernel_rfl) (by decide) (ctxOK mixed tbl_ok rfl trivial trivial) (SumOK.of ⟨(Ybz (d:=.loop (loopOf 5 Try.f10)) (by kernel_rfl) Z4v),trivial⟩) (by kernel_rfl) Zb6 Zdf rfl (by decide) (by decide) rfl (by decide) rfl Zm (fun x=>by kernel_rfl)
abbrev Zb2:Shape:={ sl:=[],bl:=[],ts:=[],pin:=0 }
abbrev Zdb:Shape:={ sl:=sl_0,bl:=[],ts:=[.bool],pin:=0 }
def Ze (x:Unit):Option (Bool) :=
 (Z2i (([]:List Int),(((0:Int),(0:Int),(0:Int),(0:Int),(Int.negSucc 0)) :: (((0:Int),(1:Int),(1:Int),(0:Int),(Int.negSucc 0)) :: (((1:Int),(0:Int),(0:Int),(0:Int),(1:Int)) :: ([]:List T9)))),(2:Int))).bind fun r7 =>
 bif (r7.2 == (0:Int)) then
 (Zm (r7.1,((2:Int) :: ((1:Int) :: ([]:List Int))))).bind fun r8 =>
 some r8
 else
 some false
abbrev Zfj:=Spec.shp Zb2 Zdb Ze
def Z6i:Ctx:={ tb:=mkTb T2.tbl,fx:=[(14,[2000000],Zgl),(10,[2000000],Zfn)],sum:=[],nt:=18,pin:=0,nr:=true,ys:=[] }
theorem Zf:Sound Try.prog 16 (Zfj) :=
 Sound.shp (C:=Z6i) (fn:=Try.f16) (by kernel_rfl) (c:=bodyOf Try.f16) (by kernel_rfl) (by decide) (ctxOK mixed tbl_ok rfl ⟨Z2j,Zn,trivial⟩ trivial) (SumOK.of trivial) (by kernel_rfl) Zb2 Zdb rfl (by decide) (by decide) rfl (by decide) rfl Ze (fun x=>by kernel_rfl)
abbrev Zai:Shape:={ sl:=[(1,(.hole (.int .i64))),(2,(.hole (.int .i64))),(3,(.hole (.int .i64))),(11,(.hole y13)),(12,(.hole (.int .i64))),(13,(.hole (.int .i64)))],bl:=[],ts:=ts_11,pin:=0 }
abbrev Z9p:List (ETag × Shape):=[(.ret,{ sl:=[(8,(.hole (.int .i64)))],bl:=[],ts:=ts_0,pin:=0 }),(.exit 0,{ sl:=[],bl:=[],ts:=[],pin:=0 })]
def Z5g (x:T16):Option (T16 ⊕ ((Int) ⊕ Unit)) :=
 bif (decide (x.2.2.2.2.2 < x.2.2.2.2.1)) then
 bif (inb x.2.2.2.2.2 (List.length x.2.2.2.1)) then
 bif ((getAt ((0:Int),(0:Int),(0:Int),(0:Int),(0:Int)) x.2.2.2.1 (toN x.2.2.2.2.2)).2.1 == x.1) then
 bif ((getAt ((0:Int),(0:Int),(0:Int),(0:Int),(0:Int)) x.2.2.2.1 (toN x.2.2.2.2.2)).2.2.1 == x.2.1) then
 bif ((getAt ((0:Int),(0:Int),(0:Int),(0:Int),(0:Int)) x.2.2.2.1 (toN x.2.2.2.2.2)).2.2.2.1 == x.2.2.1) then
 some (.inr (.inl (getAt ((0:Int),(0:Int),(0:Int),(0:Int),(0:Int)) x.2.2.2.1 (toN x.2.2.2.2.2)).2.2.2.2))
 else
 some (.inl (x.1,x.2.1,x.2.2.1,x.2.2.2.1,x.2.2.2.2.1,(IntKind.wrap .i64 (x.2.2.2.2.2+(1:Int)))))
 else
 some (.inl (x.1,x.2.1,x.2.2.1,x.2.2.2.1,x.2.2.2.2.1,(IntKind.wrap .i64 (x.2.2.2.2.2+(1:Int)))))
 else
 some (.inl (x.1,x.2.1,x.2.2.1,x.2.2.2.1,x.2.2.2.2.1,(IntKind.wrap .i64 (x.2.2.2.2.2+(1:Int)))))
 else
 none
 else
 some (.inr (.inr ()))
def Z7l:Ctx:={ tb:=mkTb T2.tbl,fx:=[],sum:=[],nt:=36,pin:=0,nr:=true,ys:=[] }
theorem Z5h:CSound Try.prog ⟨36,0,true⟩ (.loop (loopOf 3 Try.f44)) (Yby Zai Z9p (loop Z5g)) :=
 Y9b (C:=Z7l) (ctxOK mixed tbl_ok rfl trivial trivial) (SumOK.of trivial) Zai Z9p rfl rfl Z5g (fun x=>by kernel_rfl)
abbrev Zbs:Shape:={ sl:=sl_11,bl:=[],ts:=[y13,(.int .i64),(.int .i64),(.int .i64)],pin:=0 }
abbrev Ze1:Shape:={ sl:=sl_1,bl:=[],ts:=ts_0,pin:=0 }
def Z1u (x:(List (T9) × Int × Int × Int)):Option (Int) :=
 (loop Z5g (x.2.1,x.2.2.1,x.2.2.2,x.1,(((List.length x.1):Nat):Int),(0:Int))).bind fun r13 =>
 match r13 with
 | .inl y14 =>
 some y14
 | .inr y14 =>
 some (Int.negSucc 0)
abbrev Zg9:=Spec.shp Zbs Ze1 Z1u
def Z7k:Ctx:={ tb:=mkTb T2.tbl,fx:=[],sum:=[(0,3,Yby Zai Z9p (loop Z5g))],nt:=36,pin:=0,nr:=true,ys:=[] }
theorem Z1v:Sound Try.prog 44 (Zg9) :=
 Sound.shp (C:=Z7k) (fn:=Try.f44) (by kernel_rfl) (c:=bodyOf Try.f44) (by kernel_rfl) (by decide) (ctxOK mixed tbl_ok rfl trivial trivial) (SumOK.of ⟨(Ybz (d:=.loop (loopOf 3 Try.f44)) (by kernel_rfl) Z5h),trivial⟩) (by kernel_rfl) Zbs Ze1 rfl (by decide) (by decide) rfl (by decide) rfl Z1u (fun x=>by kernel_rfl)
abbrev Zbr:Shape:={ sl:=[(0,(.hole y0)),(1,(.hole y13)),(2,(.hole (.int .i64))),(3,(.hole (.int .i64)))],bl:=[],ts:=[y0,y13,(.int .i64),(.int .i64)],pin:=0 }
abbrev Ze0:Shape:={ sl:=sl_0,bl:=[],ts:=[.bool],pin:=0 }
def Z1s (x:(List Int × List (T9) × Int × Int)):Option (Bool) :=
 bif (inb x.2.2.2 (List.length x.2.1)) then
 bif (inb x.2.2.1 (List.length x.2.1)) then
 (Zw (x.2.1,x.2.2.2)).bind fun r11 =>
 bif (x.2.2.1 == r11) then
 some true
 else
 bif ((getAt ((0:Int),(0:Int),(0:Int),(0:Int),(0:Int)) x.2.1 (toN x.2.2.2)).2.1 == (0:Int)) then
 bif (x.2.2.1 == (getAt ((0:Int),(0:Int),(0:Int),(0:Int),(0:Int)) x.2.1 (toN x.2.2.2)).2.2.2.2) then
 some true
 else
 bif ((getAt ((0:Int),(0:Int),(0:Int),(0:Int),(0:Int)) x.2.1 (toN x.2.2.2)).2.1 == (5:Int)) then
 (Z1u (x.2.1,(3:Int),(getAt ((0:Int),(0:Int),(0:Int),(0:Int),(0:Int)) x.2.1 (toN x.2.2.2)).2.2.1,(getAt ((0:Int),(0:Int),(0:Int),(0:Int),(0:Int)) x.2.1 (toN x.2.2.2)).2.2.2.1)).bind fun r12 =>
 some (x.2.2.1 == r12)
 else
 bif ((getAt ((0:Int),(0:Int),(0:Int),(0:Int),(0:Int)) x.2.1 (toN x.2.2.2)).2.1 == (3:Int)) then
 bif (inb (getAt ((0:Int),(0:Int),(0:Int),(0:Int),(0:Int)) x.2.1 (toN x.2.2.2)).2.2.1 (List.length x.1)) then
 bif (decide ((getAt ((0:Int),(0:Int),(0:Int),(0:Int),(0:Int)) x.2.1 (toN x.2.2.2)).2.2.2.1 ≥ (getAt (0:Int) x.1 (toN (getAt ((0:Int),(0:Int),(0:Int),(0:Int),(0:Int)) x.2.1 (toN x.2.2.2)).2.2.1)))) then
 bif (inb (getAt ((0:Int),(0:Int),(0:Int),(0:Int),(0:Int)) x.2.1 (toN x.2.2.2)).2.2.1 (List.length x.1)) then
 (Z1u (x.2.1,(5:Int),(getAt ((0:Int),(0:Int),(0:Int),(0:Int),(0:Int)) x.2.1 (toN x.2.2.2)).2.2.1,(IntKind.wrap .i64 ((getAt ((0:Int),(0:Int),(0:Int),(0:Int),(0:Int)) x.2.1 (toN x.2.2.2)).2.2.2.1 - (getAt (0:Int) x.1 (toN (getAt ((0:Int),(0:Int),(0:Int),(0:Int),(0:Int)) x.2.1 (toN x.2.2.2)).2.2.1)))))).bind fun r12 =>
 some (x.2.2.1 == r12)
 else
 none
 else
 some false
 else
 none
 else
 bif ((getAt ((0:Int),(0:Int),(0:Int),(0:Int),(0:Int)) x.2.1 (toN x.2.2.2)).2.1 == (6:Int)) then
 bif ((getAt ((0:Int),(0:Int),(0:Int),(0:Int),(0:Int)) x.2.1 (toN x.2.2.1)).2.1 == (7:Int)) then
 some ((getAt ((0:Int),(0:Int),(0:Int),(0:Int),(0:Int)) x.2.1 (toN x.2.2.1)).2.2.1 == (getAt ((0:Int),(0:Int),(0:Int),(0:Int),(0:Int)) x.2.1 (toN x.2.2.2)).2.2.1)
 else
 some false
 else
 bif ((getAt ((0:Int),(0:Int),(0:Int),(0:Int),(0:Int)) x.2.1 (toN x.2.2.2)).2.1 == (11:Int)) then
 bif ((getAt ((0:Int),(0:Int),(0:Int),(0:Int),(0:Int)) x.2.1 (toN x.2.2.1)).2.1 == (12:Int)) then
 some ((getAt ((0:Int),(0:Int),(0:Int),(0:Int),(0:Int)) x.2.1 (toN x.2.2.1)).2.2.1 == (getAt ((0:Int),(0:Int),(0:Int),(0:Int),(0:Int)) x.2.1 (toN x.2.2.2)).2.2.1)
 else
 some false
 else
 bif ((getAt ((0:Int),(0:Int),(0:Int),(0:Int),(0:Int)) x.2.1 (toN x.2.2.2)).2.1 == (15:Int)) then
 bif ((getAt ((0:Int),(0:Int),(0:Int),(0:Int),(0:Int)) x.2.1 (toN x.2.2.1)).2.1 == (14:Int)) then
 some ((getAt ((0:Int),(0:Int),(0:Int),(0:Int),(0:Int)) x.2.1 (toN x.2.2.1)).2.2.1 == (getAt ((0:Int),(0:Int),(0:Int),(0:Int),(0:Int)) x.2.1 (toN x.2.2.2)).2.2.1)
 else
 some false
 else
 some false
 else
 bif ((getAt ((0:Int),(0:Int),(0:Int),(0:Int),(0:Int)) x.2.1 (toN x.2.2.2)).2.1 == (5:Int)) then
 (Z1u (x.2.1,(3:Int),(getAt ((0:Int),(0:Int),(0:Int),(0:Int),(0:Int)) x.2.1 (toN x.2.2.2)).2.2.1,(getAt ((0:Int),(0:Int),(0:Int),(0:Int),(0:Int)) x.2.1 (toN x.2.2.2)).2.2.2.1)).bind fun r12 =>
 some (x.2.2.1 == r12)
 else
 bif ((getAt ((0:Int),(0:Int),(0:Int),(0:Int),(0:Int)) x.2.1 (toN x.2.2.2)).2.1 == (3:Int)) then
 bif (inb (getAt ((0:Int),(0:Int),(0:Int),(0:Int),(0:Int)) x.2.1 (toN x.2.2.2)).2.2.1 (List.length x.1)) then
 bif (decide ((getAt ((0:Int),(0:Int),(0:Int),(0:Int),(0:Int)) x.2.1 (toN x.2.2.2)).2.2.2.1 ≥ (getAt (0:Int) x.1 (toN (getAt ((0:Int),(0:Int),(0:Int),(0:Int),(0:Int)) x.2.1 (toN x.2.2.2)).2.2.1)))) then
 bif (inb (getAt ((0:Int),(0:Int),(0:Int),(0:Int),(0:Int)) x.2.1 (toN x.2.2.2)).2.2.1 (List.length x.1)) then
 (Z1u (x.2.1,(5:Int),(getAt ((0:Int),(0:Int),(0:Int),(0:Int),(0:Int)) x.2.1 (toN x.2.2.2)).2.2.1,(IntKind.wrap .i64 ((getAt ((0:Int),(0:Int),(0:Int),(0:Int),(0:Int)) x.2.1 (toN x.2.2.2)).2.2.2.1 - (getAt (0:Int) x.1 (toN (getAt ((0:Int),(0:Int),(0:Int),(0:Int),(0:Int)) x.2.1 (toN x.2.2.2)).2.2.1)))))).bind fun r12 =>
 some (x.2.2.1 == r12)
 else
 none
 else
 some false
 else
 none
 else
 bif ((getAt ((0:Int),(0:Int),(0:Int),(0:Int),(0:Int)) x.2.1 (toN x.2.2.2)).2.1 == (6:Int)) then
 bif ((getAt ((0:Int),(0:Int),(0:Int),(0:Int),(0:Int)) x.2.1 (toN x.2.2.1)).2.1 == (7:Int)) then
 some ((getAt ((0:Int),(0:Int),(0:Int),(0:Int),(0:Int)) x.2.1 (toN x.2.2.1)).2.2.1 == (getAt ((0:Int),(0:Int),(0:Int),(0:Int),(0:Int)) x.2.1 (toN x.2.2.2)).2.2.1)
 else
 some false
 else
 bif ((getAt ((0:Int),(0:Int),(0:Int),(0:Int),(0:Int)) x.2.1 (toN x.2.2.2)).2.1 == (11:Int)) then
 bif ((getAt ((0:Int),(0:Int),(0:Int),(0:Int),(0:Int)) x.2.1 (toN x.2.2.1)).2.1 == (12:Int)) then
 some ((getAt ((0:Int),(0:Int),(0:Int),(0:Int),(0:Int)) x.2.1 (toN x.2.2.1)).2.2.1 == (getAt ((0:Int),(0:Int),(0:Int),(0:Int),(0:Int)) x.2.1 (toN x.2.2.2)).2.2.1)
 else
 some false
 else
 bif ((getAt ((0:Int),(0:Int),(0:Int),(0:Int),(0:Int)) x.2.1 (toN x.2.2.2)).2.1 == (15:Int)) then
 bif ((getAt ((0:Int),(0:Int),(0:Int),(0:Int),(0:Int)) x.2.1 (toN x.2.2.1)).2.1 == (14:Int)) then
 some ((getAt ((0:Int),(0:Int),(0:Int),(0:Int),(0:Int)) x.2.1 (toN x.2.2.1)).2.2.1 == (getAt ((0:Int),(0:Int),(0:Int),(0:Int),(0:Int)) x.2.1 (toN x.2.2.2)).2.2.1)
 else
 some false
 else
 some false
 else
 none
 else
 none
abbrev Zg8:=Spec.shp Zbr Ze0 Z1s
def Z7j:Ctx:={ tb:=mkTb T2.tbl,fx:=[(43,[],Zfs),(44,[],Zg9)],sum:=[],nt:=114,pin:=0,nr:=true,ys:=[] }
theorem Z1t:Sound Try.prog 27 (Zg8) :=
 Sound.shp (C:=Z7j) (fn:=Try.f27) (by kernel_rfl) (c:=bodyOf Try.f27) (by kernel_rfl) (by decide) (ctxOK mixed tbl_ok rfl ⟨Zx,Z1v,trivial⟩ trivial) (SumOK.of trivial) (by kernel_rfl) Zbr Ze0 rfl (by decide) (by decide) rfl (by decide) rfl Z1s (fun x=>by kernel_rfl)
abbrev Zah:Shape:={ sl:=[(0,(.hole y0)),(1,(.hole y13)),(2,(.hole (.int .i64))),(7,(.sl 0)),(8,(.hole (.int .i64)))],bl:=bl_8,ts:=[y0,y13,(.int .i64),(.int .i64),y0],pin:=0 }
abbrev Z9o:List (ETag × Shape):=[(.exit 0,{ sl:=[(7,(.sl 0))],bl:=bl_8,ts:=[y0],pin:=0 })]
def Z5e (x:(List Int × List (T9) × Int × Int × List Int)):Option ((List Int × List (T9) × Int × Int × List Int) ⊕ (List Int)) :=
 bif (decide (x.2.2.2.1 < x.2.2.1)) then
 (Z1s (x.1,x.2.1,x.2.2.2.1,x.2.2.1)).bind fun r10 =>
 bif r10 then
 bif (fits ((List.length x.2.2.2.2)+(List.length (x.2.2.2.1 :: ([]:List Int))))) then
 some (.inl (x.1,x.2.1,x.2.2.1,(IntKind.wrap .i64 (x.2.2.2.1+(1:Int))),(x.2.2.2.2++(x.2.2.2.1 :: ([]:List Int)))))
 else
 none
 else
 some (.inl (x.1,x.2.1,x.2.2.1,(IntKind.wrap .i64 (x.2.2.2.1+(1:Int))),x.2.2.2.2))
 else
 some (.inr x.2.2.2.2)
def Z7i:Ctx:={ tb:=mkTb T2.tbl,fx:=[(27,[],Zg8)],sum:=[],nt:=25,pin:=0,nr:=true,ys:=[] }
theorem Z5f:CSound Try.prog ⟨25,0,true⟩ (.loop (loopOf 4 Try.f11)) (Yby Zah Z9o (loop Z5e)) :=
 Y9b (C:=Z7i) (ctxOK mixed tbl_ok rfl ⟨Z1t,trivial⟩ trivial) (SumOK.of trivial) Zah Z9o rfl rfl Z5e (fun x=>by kernel_rfl)
abbrev Zbq:Shape:={ sl:=sl_9,bl:=[],ts:=ts_10,pin:=0 }
abbrev Zdz:Shape:={ sl:=sl_6,bl:=[],ts:=[y0],pin:=0 }
def Z1q (x:T15):Option (List Int) :=
 (loop Z5e (x.1,x.2.1,x.2.2,(0:Int),([]:List Int))).bind fun r9 =>
 some r9
abbrev Zg7:=Spec.shp Zbq Zdz Z1q
def Z7h:Ctx:={ tb:=mkTb T2.tbl,fx:=[(27,[],Zg8)],sum:=[(0,4,Yby Zah Z9o (loop Z5e))],nt:=25,pin:=0,nr:=true,ys:=[] }
theorem Z1r:Sound Try.prog 11 (Zg7) :=
 Sound.shp (C:=Z7h) (fn:=Try.f11) (by kernel_rfl) (c:=bodyOf Try.f11) (by kernel_rfl) (by decide) (ctxOK mixed tbl_ok rfl ⟨Z1t,trivial⟩ trivial) (SumOK.of ⟨(Ybz (d:=.loop (loopOf 4 Try.f11)) (by kernel_rfl) Z5f),trivial⟩) (by kernel_rfl) Zbq Zdz rfl (by decide) (by decide) rfl (by decide) rfl Z1q (fun x=>by kernel_rfl)
abbrev Zb4:Shape:={ sl:=sl_8,bl:=[],ts:=ts_9,pin:=0 }
abbrev Zdd:Shape:={ sl:=sl_1,bl:=[],ts:=ts_0,pin:=0 }
def Zi (x:T2):Option (Int) :=
 bif (decide (x.2 < (((List.length x.1):Nat):Int))) then
 bif (inb x.2 (List.length x.1)) then
 some (getAt (0:Int) x.1 (toN x.2))
 else
 none
 else
 some (0:Int)
abbrev Zfl:=Spec.shp Zb4 Zdd Zi
def Z6k:Ctx:={ tb:=mkTb T2.tbl,fx:=[],sum:=[],nt:=13,pin:=0,nr:=true,ys:=[] }
theorem Zj:Sound Try.prog 50 (Zfl) :=
 Sound.shp (C:=Z6k) (fn:=Try.f50) (by kernel_rfl) (c:=bodyOf Try.f50) (by kernel_rfl) (by decide) (ctxOK mixed tbl_ok rfl trivial trivial) (SumOK.of trivial) (by kernel_rfl) Zb4 Zdd rfl (by decide) (by decide) rfl (by decide) rfl Zi (fun x=>by kernel_rfl)
abbrev Za6:Shape:={ sl:=[(0,(.hole y0)),(1,(.hole y0)),(5,(.sl 0)),(6,(.hole (.int .i64)))],bl:=bl_8,ts:=[y0,y0,(.int .i64),y0],pin:=0 }
abbrev Z9d:List (ETag × Shape):=[(.exit 0,{ sl:=[(5,(.sl 0))],bl:=bl_8,ts:=[y0],pin:=0 })]
def Z4s (x:(List Int × List Int × Int × List Int)):Option ((List Int × List Int × Int × List Int) ⊕ (List Int)) :=
 bif (decide (x.2.2.1 < (16:Int))) then
 (Zi (x.1,x.2.2.1)).bind fun r12 =>
 (Zi (x.2.1,x.2.2.1)).bind fun r13 =>
 bif (fits ((List.length x.2.2.2)+(List.length ((Max.max r12 r13) :: ([]:List Int))))) then
 some (.inl (x.1,x.2.1,(IntKind.wrap .i64 (x.2.2.1+(1:Int))),(x.2.2.2++((Max.max r12 r13) :: ([]:List Int)))))
 else
 none
 else
 some (.inr x.2.2.2)
def Z6m:Ctx:={ tb:=mkTb T2.tbl,fx:=[(50,[],Zfl)],sum:=[],nt:=24,pin:=0,nr:=true,ys:=[] }
theorem Z4t:CSound Try.prog ⟨24,0,true⟩ (.loop (loopOf 4 Try.f30)) (Yby Za6 Z9d (loop Z4s)) :=
 Y9b (C:=Z6m) (ctxOK mixed tbl_ok rfl ⟨Zj,trivial⟩ trivial) (SumOK.of trivial) Za6 Z9d rfl rfl Z4s (fun x=>by kernel_rfl)
abbrev Zaa:Shape:={ sl:=[(0,(.hole y0)),(3,(.sl 0)),(4,(.hole (.int .i64))),(5,(.hole (.int .i64))),(10,(.hole (.int .i64))),(11,(.hole (.int .i64))),(16,(.hole y0)),(17,(.hole (.int .i64))),(18,(.hole (.int .i64)))],bl:=bl_8,ts:=[y0,(.int .i64),(.int .i64),(.int .i64),(.int .i64),y0,(.int .i64),(.int .i64),y0],pin:=0 }
abbrev Z9h:List (ETag × Shape):=[(.exit 2,{ sl:=[(0,(.hole y0)),(3,(.sl 0)),(4,(.hole (.int .i64))),(5,(.hole (.int .i64))),(10,(.hole (.int .i64))),(11,(.hole (.int .i64)))],bl:=bl_8,ts:=[y0,(.int .i64),(.int .i64),(.int .i64),(.int .i64),y0],pin:=0 })]
def Z50 (x:(List Int × Int × Int × Int × Int × List Int × Int × Int × List Int)):Option ((List Int × Int × Int × Int × Int × List Int × Int × Int × List Int) ⊕ (List Int × Int × Int × Int × Int × List Int)) :=
 bif (decide (x.2.2.2.2.2.2.2.1 < x.2.2.2.2.2.2.1)) then
 bif (inb x.2.2.2.2.2.2.2.1 (List.length x.2.2.2.2.2.1)) then
 some (.inl (x.1,x.2.1,(Max.max x.2.2.1 (getAt (0:Int) x.2.2.2.2.2.1 (toN x.2.2.2.2.2.2.2.1))),x.2.2.2.1,x.2.2.2.2.1,x.2.2.2.2.2.1,x.2.2.2.2.2.2.1,(IntKind.wrap .i64 (x.2.2.2.2.2.2.2.1+(1:Int))),x.2.2.2.2.2.2.2.2))
 else
 none
 else
 some (.inr (x.1,x.2.1,x.2.2.1,x.2.2.2.1,x.2.2.2.2.1,x.2.2.2.2.2.2.2.2))
def Z6t:Ctx:={ tb:=mkTb T2.tbl,fx:=[],sum:=[],nt:=37,pin:=0,nr:=true,ys:=[] }
theorem Z51:CSound Try.prog ⟨37,0,true⟩ (.loop (loopOf 8 Try.f51)) (Yby Zaa Z9h (loop Z50)) :=
 Y9b (C:=Z6t) (ctxOK mixed tbl_ok rfl trivial trivial) (SumOK.of trivial) Zaa Z9h rfl rfl Z50 (fun x=>by kernel_rfl)
abbrev Za9:Shape:={ sl:=[(0,(.hole y0)),(3,(.sl 0)),(10,(.hole (.int .i64))),(11,(.hole (.int .i64)))],bl:=bl_8,ts:=[y0,(.int .i64),(.int .i64),y0],pin:=0 }
abbrev Z9g:List (ETag × Shape):=[(.exit 0,{ sl:=[(3,(.sl 0))],bl:=bl_8,ts:=[y0],pin:=0 })]
def Z4y (x:T7):Option (T7 ⊕ (List Int)) :=
 bif (decide (x.2.2.1 < x.2.1)) then
 bif (sub3 x.2.2.1 (((List.length x.1):Nat):Int) (List.length x.1)) then
 (loop Z50 (x.1,x.2.2.1,(0:Int),x.2.1,x.2.2.1,(cut x.1 (toN x.2.2.1) ((toN (((List.length x.1):Nat):Int)) - (toN x.2.2.1))),(((List.length (cut x.1 (toN x.2.2.1) ((toN (((List.length x.1):Nat):Int)) - (toN x.2.2.1)))):Nat):Int),(0:Int),x.2.2.2)).bind fun r14 =>
 bif (decide (r14.2.2.1 > (0:Int))) then
 bif (inb r14.2.1 (List.length r14.1)) then
 bif (fits ((List.length r14.2.2.2.2.2)+(List.length ((getAt (0:Int) r14.1 (toN r14.2.1)) :: ([]:List Int))))) then
 some (.inl (r14.1,r14.2.2.2.1,(IntKind.wrap .i64 (r14.2.2.2.2.1+(1:Int))),(r14.2.2.2.2.2++((getAt (0:Int) r14.1 (toN r14.2.1)) :: ([]:List Int)))))
 else
 none
 else
 none
 else
 some (.inl (r14.1,r14.2.2.2.1,(IntKind.wrap .i64 (r14.2.2.2.2.1+(1:Int))),r14.2.2.2.2.2))
 else
 none
 else
 some (.inr x.2.2.2)
def Z6s:Ctx:={ tb:=mkTb T2.tbl,fx:=[],sum:=[(0,8,Yby Zaa Z9h (loop Z50))],nt:=37,pin:=0,nr:=true,ys:=[] }
theorem Z4z:CSound Try.prog ⟨37,0,true⟩ (.loop (loopOf 4 Try.f51)) (Yby Za9 Z9g (loop Z4y)) :=
 Y9b (C:=Z6s) (ctxOK mixed tbl_ok rfl trivial trivial) (SumOK.of ⟨(Ybz (d:=.loop (loopOf 8 Try.f51)) (by kernel_rfl) Z51),trivial⟩) Za9 Z9g rfl rfl Z4y (fun x=>by kernel_rfl)
end
end Go.Proofs.Ytifbgkikkiallaa.VX.VxE_S
set_option linter.unusedVariables false
set_option maxRecDepth 100000
namespace Go.Proofs.Ytifbgkikkiallaa.VX.VxE_S
open Go.Proofs Go.Proofs.Ytifbgkikkiallaa.VX.T2
noncomputable section
abbrev Zb8:Shape:={ sl:=sl_6,bl:=[],ts:=[y0],pin:=0 }
abbrev Zdh:Shape:={ sl:=sl_6,bl:=[],ts:=[y0],pin:=0 }
def Zq (x:(List Int)):Option (List Int) :=
 (loop Z4y (x,(((List.length x):Nat):Int),(0:Int),([]:List Int))).bind fun r13 =>
 some r13
abbrev Zfp:=Spec.shp Zb8 Zdh Zq
def Z6r:Ctx:={ tb:=mkTb T2.tbl,fx:=[],sum:=[(0,8,Yby Zaa Z9h (loop Z50)),(0,4,Yby Za9 Z9g (loop Z4y))],nt:=37,pin:=0,nr:=true,ys:=[] }
theorem Zr:Sound Try.prog 51 (Zfp) :=
 Sound.shp (C:=Z6r) (fn:=Try.f51) (by kernel_rfl) (c:=bodyOf Try.f51) (by kernel_rfl) (by decide) (ctxOK mixed tbl_ok rfl trivial trivial) (SumOK.of ⟨(Ybz (d:=.loop (loopOf 8 Try.f51)) (by kernel_rfl) Z51),(Ybz (d:=.loop (loopOf 4 Try.f51)) (by kernel_rfl) Z4z),trivial⟩) (by kernel_rfl) Zb8 Zdh rfl (by decide) (by decide) rfl (by decide) rfl Zq (fun x=>by kernel_rfl)
abbrev Zb5:Shape:={ sl:=[(0,(.hole y0)),(1,(.hole y0))],bl:=[],ts:=[y0,y0],pin:=0 }
abbrev Zde:Shape:={ sl:=sl_6,bl:=[],ts:=[y0],pin:=0 }
def Zk (x:T5):Option (List Int) :=
 (loop Z4s (x.1,x.2,(0:Int),([]:List Int))).bind fun r11 =>
 (Zq r11).bind fun r12 =>
 some r12
abbrev Zfm:=Spec.shp Zb5 Zde Zk
def Z6l:Ctx:={ tb:=mkTb T2.tbl,fx:=[(50,[],Zfl),(51,[2000000],Zfp)],sum:=[(0,4,Yby Za6 Z9d (loop Z4s))],nt:=24,pin:=0,nr:=true,ys:=[] }
theorem Zl:Sound Try.prog 30 (Zfm) :=
 Sound.shp (C:=Z6l) (fn:=Try.f30) (by kernel_rfl) (c:=bodyOf Try.f30) (by kernel_rfl) (by decide) (ctxOK mixed tbl_ok rfl ⟨Zj,Zr,trivial⟩ trivial) (SumOK.of ⟨(Ybz (d:=.loop (loopOf 4 Try.f30)) (by kernel_rfl) Z4t),trivial⟩) (by kernel_rfl) Zb5 Zde rfl (by decide) (by decide) rfl (by decide) rfl Zk (fun x=>by kernel_rfl)
abbrev Zak:Shape:={ sl:=[(0,(.hole y0)),(1,(.hole y13)),(5,(.sl 1)),(7,(.ptr 0 [])),(8,(.hole y0)),(12,(.hole y13)),(13,(.hole (.int .i64))),(14,(.hole (.int .i64))),(23,(.hole y0)),(24,(.hole (.int .i64))),(25,(.hole (.int .i64)))],bl:=[.var (.hole y12),.row y0],ts:=[y0,y13,y0,y13,(.int .i64),(.int .i64),y0,(.int .i64),(.int .i64),y12,(.slice y0)],pin:=0 }
abbrev Z9r:List (ETag × Shape):=[(.exit 2,{ sl:=[(0,(.hole y0)),(1,(.hole y13)),(5,(.sl 1)),(7,(.ptr 0 [])),(8,(.hole y0)),(12,(.hole y13)),(13,(.hole (.int .i64))),(14,(.hole (.int .i64)))],bl:=[.var (.hole y12),.row y0],ts:=[y0,y13,y0,y13,(.int .i64),(.int .i64),y12,(.slice y0)],pin:=0 })]
def Z5k (x:(List Int × List (T9) × List Int × List (T9) × Int × Int × List Int × Int × Int × T9 × List (List Int))):Option ((List Int × List (T9) × List Int × List (T9) × Int × Int × List Int × Int × Int × T9 × List (List Int)) ⊕ (List Int × List (T9) × List Int × List (T9) × Int × Int × T9 × List (List Int))) :=
 bif (decide (x.2.2.2.2.2.2.2.2.1 < x.2.2.2.2.2.2.2.1)) then
 bif (inb x.2.2.2.2.2.2.2.2.1 (List.length x.2.2.2.2.2.2.1)) then
 bif (inb (getAt (0:Int) x.2.2.2.2.2.2.1 (toN x.2.2.2.2.2.2.2.2.1)) (List.length x.2.2.2.2.2.2.2.2.2.2)) then
 (Zk (x.2.2.1,(getAt ([]:List Int) x.2.2.2.2.2.2.2.2.2.2 (toN (getAt (0:Int) x.2.2.2.2.2.2.1 (toN x.2.2.2.2.2.2.2.2.1)))))).bind fun r10 =>
 some (.inl (x.1,x.2.1,r10,x.2.2.2.1,x.2.2.2.2.1,x.2.2.2.2.2.1,x.2.2.2.2.2.2.1,x.2.2.2.2.2.2.2.1,(IntKind.wrap .i64 (x.2.2.2.2.2.2.2.2.1+(1:Int))),x.2.2.2.2.2.2.2.2.2.1,x.2.2.2.2.2.2.2.2.2.2))
 else
 none
 else
 none
 else
 some (.inr (x.1,x.2.1,x.2.2.1,x.2.2.2.1,x.2.2.2.2.1,x.2.2.2.2.2.1,x.2.2.2.2.2.2.2.2.2.1,x.2.2.2.2.2.2.2.2.2.2))
def Z7o:Ctx:={ tb:=mkTb T2.tbl,fx:=[(11,[],Zg7),(30,[2000000],Zfm),(30,[],Zfm)],sum:=[],nt:=45,pin:=0,nr:=true,ys:=[] }
theorem Z5l:CSound Try.prog ⟨45,0,true⟩ (.loop (loopOf 8 Try.f17)) (Yby Zak Z9r (loop Z5k)) :=
 Y9b (C:=Z7o) (ctxOK mixed tbl_ok rfl ⟨Z1r,Zl,Zl,trivial⟩ trivial) (SumOK.of trivial) Zak Z9r rfl rfl Z5k (fun x=>by kernel_rfl)
abbrev Za8:Shape:={ sl:=[(0,(.hole y0)),(1,(.hole (.int .i64))),(5,(.sl 0)),(6,(.hole (.int .i64)))],bl:=bl_8,ts:=[y0,(.int .i64),(.int .i64),y0],pin:=0 }
abbrev Z9f:List (ETag × Shape):=[(.exit 0,{ sl:=[(5,(.sl 0))],bl:=bl_8,ts:=[y0],pin:=0 })]
def Z4w (x:T7):Option (T7 ⊕ (List Int)) :=
 bif (decide (x.2.2.1 < (16:Int))) then
 (Zi (x.1,x.2.2.1)).bind fun r12 =>
 bif (x.2.2.1 == x.2.1) then
 bif (fits ((List.length x.2.2.2)+(List.length ((IntKind.wrap .i64 (r12+(1:Int))) :: ([]:List Int))))) then
 some (.inl (x.1,x.2.1,(IntKind.wrap .i64 (x.2.2.1+(1:Int))),(x.2.2.2++((IntKind.wrap .i64 (r12+(1:Int))) :: ([]:List Int)))))
 else
 none
 else
 bif (fits ((List.length x.2.2.2)+(List.length (r12 :: ([]:List Int))))) then
 some (.inl (x.1,x.2.1,(IntKind.wrap .i64 (x.2.2.1+(1:Int))),(x.2.2.2++(r12 :: ([]:List Int)))))
 else
 none
 else
 some (.inr x.2.2.2)
def Z6q:Ctx:={ tb:=mkTb T2.tbl,fx:=[(50,[],Zfl)],sum:=[],nt:=27,pin:=0,nr:=true,ys:=[] }
theorem Z4x:CSound Try.prog ⟨27,0,true⟩ (.loop (loopOf 4 Try.f31)) (Yby Za8 Z9f (loop Z4w)) :=
 Y9b (C:=Z6q) (ctxOK mixed tbl_ok rfl ⟨Zj,trivial⟩ trivial) (SumOK.of trivial) Za8 Z9f rfl rfl Z4w (fun x=>by kernel_rfl)
abbrev Zb7:Shape:={ sl:=sl_8,bl:=[],ts:=ts_9,pin:=0 }
abbrev Zdg:Shape:={ sl:=sl_6,bl:=[],ts:=[y0],pin:=0 }
def Zo (x:T2):Option (List Int) :=
 (loop Z4w (x.1,x.2,(0:Int),([]:List Int))).bind fun r11 =>
 (Zq r11).bind fun r12 =>
 some r12
abbrev Zfo:=Spec.shp Zb7 Zdg Zo
def Z6p:Ctx:={ tb:=mkTb T2.tbl,fx:=[(50,[],Zfl),(51,[2000000],Zfp)],sum:=[(0,4,Yby Za8 Z9f (loop Z4w))],nt:=27,pin:=0,nr:=true,ys:=[] }
theorem Zp:Sound Try.prog 31 (Zfo) :=
 Sound.shp (C:=Z6p) (fn:=Try.f31) (by kernel_rfl) (c:=bodyOf Try.f31) (by kernel_rfl) (by decide) (ctxOK mixed tbl_ok rfl ⟨Zj,Zr,trivial⟩ trivial) (SumOK.of ⟨(Ybz (d:=.loop (loopOf 4 Try.f31)) (by kernel_rfl) Z4x),trivial⟩) (by kernel_rfl) Zb7 Zdg rfl (by decide) (by decide) rfl (by decide) rfl Zo (fun x=>by kernel_rfl)
abbrev Zaj:Shape:={ sl:=[(0,(.hole y0)),(1,(.hole y13)),(5,(.sl 0)),(12,(.hole y13)),(13,(.hole (.int .i64))),(14,(.hole (.int .i64)))],bl:=[.row y0],ts:=[y0,y13,y13,(.int .i64),(.int .i64),(.slice y0)],pin:=0 }
abbrev Z9q:List (ETag × Shape):=[(.exit 0,{ sl:=[(5,(.sl 0))],bl:=[.row y0],ts:=[(.slice y0)],pin:=0 })]
def Z5i (x:(List Int × List (T9) × List (T9) × Int × Int × List (List Int))):Option ((List Int × List (T9) × List (T9) × Int × Int × List (List Int)) ⊕ (List (List Int))) :=
 bif (decide (x.2.2.2.2.1 < x.2.2.2.1)) then
 bif (inb x.2.2.2.2.1 (List.length x.2.2.1)) then
 (Z1q (x.1,x.2.1,x.2.2.2.2.1)).bind fun r8 =>
 (loop Z5k (x.1,x.2.1,([]:List Int),x.2.2.1,x.2.2.2.1,x.2.2.2.2.1,r8,(((List.length r8):Nat):Int),(0:Int),(getAt ((0:Int),(0:Int),(0:Int),(0:Int),(0:Int)) x.2.2.1 (toN x.2.2.2.2.1)),x.2.2.2.2.2)).bind fun r9 =>
 (Zo (r9.2.2.1,r9.2.2.2.2.2.2.1.1)).bind fun r10 =>
 bif (fits ((List.length r9.2.2.2.2.2.2.2)+(List.length (r10 :: ([]:List (List Int)))))) then
 some (.inl (r9.1,r9.2.1,r9.2.2.2.1,r9.2.2.2.2.1,(IntKind.wrap .i64 (r9.2.2.2.2.2.1+(1:Int))),(r9.2.2.2.2.2.2.2++(r10 :: ([]:List (List Int))))))
 else
 none
 else
 none
 else
 some (.inr x.2.2.2.2.2)
def Z7n:Ctx:={ tb:=mkTb T2.tbl,fx:=[(11,[],Zg7),(30,[2000000],Zfm),(30,[],Zfm),(31,[],Zfo)],sum:=[(0,8,Yby Zak Z9r (loop Z5k))],nt:=45,pin:=0,nr:=true,ys:=[] }
theorem Z5j:CSound Try.prog ⟨45,0,true⟩ (.loop (loopOf 4 Try.f17)) (Yby Zaj Z9q (loop Z5i)) :=
 Y9b (C:=Z7n) (ctxOK mixed tbl_ok rfl ⟨Z1r,Zl,Zl,Zp,trivial⟩ trivial) (SumOK.of ⟨(Ybz (d:=.loop (loopOf 8 Try.f17)) (by kernel_rfl) Z5l),trivial⟩) Zaj Z9q rfl rfl Z5i (fun x=>by kernel_rfl)
abbrev Zbt:Shape:={ sl:=sl_5,bl:=[],ts:=[y0,y13],pin:=0 }
abbrev Ze2:Shape:={ sl:=[(0,(.hole (.slice y0)))],bl:=[],ts:=[(.slice y0)],pin:=0 }
def Z1w (x:T14):Option (List (List Int)) :=
 (loop Z5i (x.1,x.2,x.2,(((List.length x.2):Nat):Int),(0:Int),([]:List (List Int)))).bind fun r7 =>
 some r7
abbrev Zga:=Spec.shp Zbt Ze2 Z1w
def Z7m:Ctx:={ tb:=mkTb T2.tbl,fx:=[(11,[],Zg7),(30,[2000000],Zfm),(30,[],Zfm),(31,[],Zfo)],sum:=[(0,8,Yby Zak Z9r (loop Z5k)),(0,4,Yby Zaj Z9q (loop Z5i))],nt:=45,pin:=0,nr:=true,ys:=[] }
theorem Z1x:Sound Try.prog 17 (Zga) :=
 Sound.shp (C:=Z7m) (fn:=Try.f17) (by kernel_rfl) (c:=bodyOf Try.f17) (by kernel_rfl) (by decide) (ctxOK mixed tbl_ok rfl ⟨Z1r,Zl,Zl,Zp,trivial⟩ trivial) (SumOK.of ⟨(Ybz (d:=.loop (loopOf 8 Try.f17)) (by kernel_rfl) Z5l),(Ybz (d:=.loop (loopOf 4 Try.f17)) (by kernel_rfl) Z5j),trivial⟩) (by kernel_rfl) Zbt Ze2 rfl (by decide) (by decide) rfl (by decide) rfl Z1w (fun x=>by kernel_rfl)
abbrev Zal:Shape:={ sl:=[(5,(.hole y0)),(11,(.hole (.slice y0))),(12,(.hole (.int .i64))),(13,(.hole (.int .i64)))],bl:=[],ts:=[y0,(.slice y0),(.int .i64),(.int .i64)],pin:=0 }
abbrev Z9s:List (ETag × Shape):=[(.exit 0,{ sl:=[(5,(.hole y0))],bl:=[],ts:=[y0],pin:=0 })]
def Z5m (x:(List Int × List (List Int) × Int × Int)):Option ((List Int × List (List Int) × Int × Int) ⊕ (List Int)) :=
 bif (decide (x.2.2.2 < x.2.2.1)) then
 bif (inb x.2.2.2 (List.length x.2.1)) then
 (Zk (x.1,(getAt ([]:List Int) x.2.1 (toN x.2.2.2)))).bind fun r10 =>
 some (.inl (r10,x.2.1,x.2.2.1,(IntKind.wrap .i64 (x.2.2.2+(1:Int)))))
 else
 none
 else
 some (.inr x.1)
def Z7q:Ctx:={ tb:=mkTb T2.tbl,fx:=[(17,[],Zga),(30,[2000000],Zfm),(30,[],Zfm)],sum:=[],nt:=22,pin:=0,nr:=true,ys:=[] }
theorem Z5n:CSound Try.prog ⟨22,0,true⟩ (.loop (loopOf 4 Try.f18)) (Yby Zal Z9s (loop Z5m)) :=
 Y9b (C:=Z7q) (ctxOK mixed tbl_ok rfl ⟨Z1x,Zl,Zl,trivial⟩ trivial) (SumOK.of trivial) Zal Z9s rfl rfl Z5m (fun x=>by kernel_rfl)
abbrev Zbu:Shape:={ sl:=sl_5,bl:=[],ts:=[y0,y13],pin:=0 }
abbrev Ze3:Shape:={ sl:=sl_6,bl:=[],ts:=[y0],pin:=0 }
def Z1y (x:T14):Option (List Int) :=
 (Z1w (x.1,x.2)).bind fun r8 =>
 (loop Z5m (([]:List Int),r8,(((List.length r8):Nat):Int),(0:Int))).bind fun r9 =>
 some r9
abbrev Zgb:=Spec.shp Zbu Ze3 Z1y
def Z7p:Ctx:={ tb:=mkTb T2.tbl,fx:=[(17,[],Zga),(30,[2000000],Zfm),(30,[],Zfm)],sum:=[(0,4,Yby Zal Z9s (loop Z5m))],nt:=22,pin:=0,nr:=true,ys:=[] }
theorem Z1z:Sound Try.prog 18 (Zgb) :=
 Sound.shp (C:=Z7p) (fn:=Try.f18) (by kernel_rfl) (c:=bodyOf Try.f18) (by kernel_rfl) (by decide) (ctxOK mixed tbl_ok rfl ⟨Z1x,Zl,Zl,trivial⟩ trivial) (SumOK.of ⟨(Ybz (d:=.loop (loopOf 4 Try.f18)) (by kernel_rfl) Z5n),trivial⟩) (by kernel_rfl) Zbu Ze3 rfl (by decide) (by decide) rfl (by decide) rfl Z1y (fun x=>by kernel_rfl)
abbrev Za5:Shape:={ sl:=[(1,(.hole y13)),(2,(.hole (.int .i64))),(7,(.hole (.slice y0))),(9,(.hole y0)),(10,(.hole (.int .i64))),(13,(.hole (.slice y0))),(102,(.hole (.int .i64))),(103,(.hole (.int .i64)))],bl:=[],ts:=[y13,(.int .i64),(.slice y0),y0,(.int .i64),(.slice y0),(.int .i64),(.int .i64)],pin:=0 }
abbrev Z9c:List (ETag × Shape):=[(.ret,{ sl:=[(6,(.hole .bool))],bl:=[],ts:=[.bool],pin:=0 }),(.exit 0,{ sl:=[(1,(.hole y13)),(2,(.hole (.int .i64))),(9,(.hole y0)),(10,(.hole (.int .i64))),(13,(.hole (.slice y0)))],bl:=[],ts:=[y13,(.int .i64),y0,(.int .i64),(.slice y0)],pin:=0 })]
def Z4q (x:(List (T9) × Int × List (List Int) × List Int × Int × List (List Int) × Int × Int)):Option ((List (T9) × Int × List (List Int) × List Int × Int × List (List Int) × Int × Int) ⊕ ((Bool) ⊕ (List (T9) × Int × List Int × Int × List (List Int)))) :=
 bif (decide (x.2.2.2.2.2.2.2 < x.2.2.2.2.2.2.1)) then
 bif (inb x.2.2.2.2.2.2.2 (List.length x.2.2.1)) then
 bif (inb x.2.2.2.2.2.2.2 (List.length x.2.2.2.2.2.1)) then
 (Zm ((getAt ([]:List Int) x.2.2.1 (toN x.2.2.2.2.2.2.2)),(getAt ([]:List Int) x.2.2.2.2.2.1 (toN x.2.2.2.2.2.2.2)))).bind fun r11 =>
 bif (Bool.not r11) then
 some (.inr (.inl false))
 else
 some (.inl (x.1,x.2.1,x.2.2.1,x.2.2.2.1,x.2.2.2.2.1,x.2.2.2.2.2.1,x.2.2.2.2.2.2.1,(IntKind.wrap .i64 (x.2.2.2.2.2.2.2+(1:Int)))))
 else
 none
 else
 none
 else
 some (.inr (.inr (x.1,x.2.1,x.2.2.2.1,x.2.2.2.2.1,x.2.2.2.2.2.1)))
def Z6h:Ctx:={ tb:=mkTb T2.tbl,fx:=[(12,[],Zfk),(13,[],Zgj),(14,[],Zgl),(15,[],Zgk),(8,[],Zg6),(16,[],Zfj),(17,[],Zga),(18,[],Zgb),(10,[],Zfn)],sum:=[],nt:=142,pin:=0,nr:=true,ys:=[],rw:=[(1,[0])] }
theorem Z4r:CSound Try.prog ⟨142,0,true⟩ (.loop (loopOf 12 Try.f4)) (Yby Za5 Z9c (loop Z4q)) :=
 Y9b (C:=Z6h) (ctxOK mixed tbl_ok rfl ⟨Zh,Z2f,Z2j,Z2h,Z1p,Zf,Z1x,Z1z,Zn,trivial⟩ trivial) (SumOK.of trivial) Za5 Z9c rfl rfl Z4q (fun x=>by kernel_rfl)
def F_plaitlaw16_StampTells (x:T15):Option (Bool) :=
 bif (sub3 (0:Int) (Min.min (((List.length x.1):Nat):Int) (6:Int)) (List.length x.1)) then
 (Zg x.2.1).bind fun r1 =>
 (Z2e ((cut x.1 (toN (0:Int)) ((toN (Min.min (((List.length x.1):Nat):Int) (6:Int))) - (toN (0:Int)))),r1)).bind fun r2 =>
 (Z2i ((cut x.1 (toN (0:Int)) ((toN (Min.min (((List.length x.1):Nat):Int) (6:Int))) - (toN (0:Int)))),r1,x.2.2)).bind fun r3 =>
 (Z2g ((cut x.1 (toN (0:Int)) ((toN (Min.min (((List.length x.1):Nat):Int) (6:Int))) - (toN (0:Int)))),r1)).bind fun r4 =>
 (Z1o ((cut x.1 (toN (0:Int)) ((toN (Min.min (((List.length x.1):Nat):Int) (6:Int))) - (toN (0:Int)))),r1)).bind fun r5 =>
 bif (Bool.not r5) then
 (Ze ()).bind fun r6 =>
 bif r6 then
 bif (r2.2 == (1:Int)) then
 bif (r3.2 == (1:Int)) then
 bif (r4.2 == (1:Int)) then
 bif ((((List.length r2.1):Nat):Int) == (0:Int)) then
 bif ((((List.length r3.1):Nat):Int) == (0:Int)) then
 some ((((List.length r4.1):Nat):Int) == (0:Int))
 else
 some false
 else
 some false
 else
 some false
 else
 some false
 else
 some false
 else
 some false
 else
 (Z1w ((cut x.1 (toN (0:Int)) ((toN (Min.min (((List.length x.1):Nat):Int) (6:Int))) - (toN (0:Int)))),r1)).bind fun r6 =>
 bif (r2.2 != (0:Int)) then
 some false
 else
 bif (r4.2 != (0:Int)) then
 some false
 else
 bif ((((List.length r2.1):Nat):Int) != (((List.length r6):Nat):Int)) then
 some false
 else
 (Z1y ((cut x.1 (toN (0:Int)) ((toN (Min.min (((List.length x.1):Nat):Int) (6:Int))) - (toN (0:Int)))),r1)).bind fun r7 =>
 (Zm (r4.1,r7)).bind fun r8 =>
 bif (Bool.not r8) then
 some false
 else
 (Ze ()).bind fun r9 =>
 bif (Bool.not r9) then
 some false
 else
 (loop Z4q (r1,x.2.2,r2.1,r3.1,r3.2,r6,(((List.length r6):Nat):Int),(0:Int))).bind fun r10 =>
 match r10 with
 | .inl y11 =>
 some y11
 | .inr y11 =>
 bif (decide (y11.2.1 < (0:Int))) then
 bif (y11.2.2.2.1 == (3:Int)) then
 some ((((List.length y11.2.2.1):Nat):Int) == (0:Int))
 else
 some false
 else
 bif (decide (y11.2.1 ≥ (((List.length y11.1):Nat):Int))) then
 bif (y11.2.2.2.1 == (3:Int)) then
 some ((((List.length y11.2.2.1):Nat):Int) == (0:Int))
 else
 some false
 else
 bif (y11.2.2.2.1 == (0:Int)) then
 bif (inb y11.2.1 (List.length y11.2.2.2.2)) then
 (Zm (y11.2.2.1,(getAt ([]:List Int) y11.2.2.2.2 (toN y11.2.1)))).bind fun r12 =>
 some r12
 else
 none
 else
 some false
 else
 none
def Z6g:Ctx:={ tb:=mkTb T2.tbl,fx:=[(12,[],Zfk),(13,[],Zgj),(14,[],Zgl),(15,[],Zgk),(8,[],Zg6),(16,[],Zfj),(17,[],Zga),(18,[],Zgb),(10,[],Zfn)],sum:=[(0,12,Yby Za5 Z9c (loop Z4q))],nt:=142,pin:=0,nr:=true,ys:=[],rw:=[(1,[0])] }
theorem F_plaitlaw16_StampTells_ok:Sound Try.prog 4 (Spec.pure [y0,y13,(.int .i64)] [.bool] F_plaitlaw16_StampTells) :=
 Sound.pure (C:=Z6g) (fn:=Try.f4) (by kernel_rfl) (c:=bodyOf Try.f4) (by kernel_rfl) (by decide) (ctxOK mixed tbl_ok rfl ⟨Zh,Z2f,Z2j,Z2h,Z1p,Zf,Z1x,Z1z,Zn,trivial⟩) (SumOK.of ⟨(Ybz (d:=.loop (loopOf 12 Try.f4)) (by kernel_rfl) Z4r),trivial⟩) (by kernel_rfl) rfl _ _ (by decide) _ (fun x=>by kernel_rfl)
end
end Go.Proofs.Ytifbgkikkiallaa.VX.VxE_S

