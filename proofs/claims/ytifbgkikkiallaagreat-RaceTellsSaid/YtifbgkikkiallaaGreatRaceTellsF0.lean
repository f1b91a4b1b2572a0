/- Laid for the law RaceTells. -/
import Derived.Test.YtifbgkikkiallaaGreatRaceTellsE15
import Derived.Test.YtifbgkikkiallaaGreatRaceTellsE18
import Derived.Test.YtifbgkikkiallaaGreatRaceTellsE19
set_option linter.unusedVariables false
set_option linter.unusedSimpArgs false
set_option maxRecDepth 100000
namespace Go.Proofs.YtifbgkikkiallaaGreat.VX.VxZ_Z
open Go.Proofs Go.Proofs.YtifbgkikkiallaaGreat.VX.T2
noncomputable section
theorem mixed:Tryz.prog.follows .mixedOrders=true:=by kernel_rfl
abbrev mC (fx:List (FuncId × List FuncId × Spec)) (sum:List (Nat × Nat × CSpec)) (nt pin:Nat) (nr:Bool:=true) (ys:List (Nat × List Nat × Spec):=[]) (rw:List (Nat × List Nat):=[]):Ctx:={ tb:=mkTb T2.tbl,fx:=fx,sum:=sum,nt:=nt,pin:=pin,nr:=nr,ys:=ys,rw:=rw }
theorem tS (C:Ctx) (fn:Func) {f:FuncId} {sh ro:Shape} {F:HL sh.ts->Option (HL ro.ts)} (hx:FxAll Tryz.prog C.fx) (hs:SumAll Tryz.prog C.ek (bodyOf fn) C.sum:=by trivial) (hy:YsAll Tryz.prog C.ys:=by trivial) (h1:Tryz.prog.funcs[f]?=some fn:=by kernel_rfl) (h2:fn.body=some (bodyOf fn):=by kernel_rfl) (h3:fn.name ≠ "runtime.NumGoroutine":=by decide) (h4:C.tb=mkTb T2.tbl:=by rfl) (h5:∀ (R:Type) f cl args m N k kp,C.miss (R:=R) f cl args m N k kp=none:=by intros; rfl) (h6:fn.ntmps=C.nt:=by kernel_rfl) (h7:ro.pin=C.pin:=by rfl) (h8:C.pin <= sh.bl.length:=by decide) (h9:C.pin <= ro.bl.length:=by decide) (h10:sh.pin=0:=by rfl) (h11:sh.sl.length <= C.nt:=by decide) (h12:seqK 0 ro.sl=true:=by rfl) (h13:∀ x,exec C (bodyOf fn) (sh.fr x) (sh.mem x) sh.bl.length (retS C fn.results.toList ro)=F x:=by intro x; kernel_rfl):Sound Tryz.prog f (Spec.shp sh ro F) :=
 Sound.shp h1 h2 h3 (ctxOK mixed tbl_ok h4 hx hy h5) (SumOK.of hs) h6 sh ro h7 h8 h9 h10 h11 h12 F h13
theorem tL (C:Ctx) (n:Nat) (fn:Func) {sh:Shape} {es:List (ETag × Shape)} {F:HL sh.ts->Option (HL sh.ts ⊕ YT es)} (hx:FxAll Tryz.prog C.fx) (hs:SumAll Tryz.prog C.ek (loopOf n fn) C.sum:=by trivial) (hy:YsAll Tryz.prog C.ys:=by trivial) (h4:C.tb=mkTb T2.tbl:=by rfl) (h5:∀ (R:Type) f cl args m N k kp,C.miss (R:=R) f cl args m N k kp=none:=by intros; rfl) (h6:sh.pin=C.pin:=by rfl) (h7:pinsOK C.pin es=true:=by rfl) (h8:∀ x,exec C (loopOf n fn) (sh.fr x) (sh.mem x) sh.bl.length (loopK sh es)=F x:=by intro x; kernel_rfl):CSound Tryz.prog C.ek (.loop (loopOf n fn)) (pieceSpec sh es (loop F)) :=
 loop_sound (ctxOK mixed tbl_ok h4 hx hy h5) (SumOK.of hs) sh es h6 h7 F h8
theorem tP (C:Ctx) (fn:Func) {f:FuncId} {ts rs:List Ty} {F:HL ts->Option (HL rs)} (hx:FxAll Tryz.prog C.fx) (hs:SumAll Tryz.prog C.ek (bodyOf fn) C.sum:=by trivial) (hy:YsAll Tryz.prog C.ys:=by trivial) (h1:Tryz.prog.funcs[f]?=some fn:=by kernel_rfl) (h2:fn.body=some (bodyOf fn):=by kernel_rfl) (h3:fn.name ≠ "runtime.NumGoroutine":=by decide) (h4:C.tb=mkTb T2.tbl:=by rfl) (h5:∀ (R:Type) f cl args m N k kp,C.miss (R:=R) f cl args m N k kp=none:=by intros; rfl) (h6:fn.ntmps=C.nt:=by kernel_rfl) (h7:C.pin=0:=by rfl) (h8:ts.length <= C.nt:=by decide) (h9:∀ x,exec C (bodyOf fn) (initFr 0 (ofHL ts x)) [] 0 (retK C fn.results.toList rs)=F x:=by intro x; kernel_rfl):Sound Tryz.prog f (Spec.pure ts rs F) :=
 Sound.pure h1 h2 h3 (ctxOK mixed tbl_ok h4 hx hy h5) (SumOK.of hs) h6 h7 ts rs h8 F h9
theorem pL (n:Nat) (fn:Func) {c:Code} {k:EK} {s:CSpec} (h:CSound Tryz.prog k (.loop (loopOf n fn)) s) (e:pieces 0 n c=[.loop (loopOf n fn)]:=by kernel_rfl):∀ d ∈ pieces 0 n c,CSound Tryz.prog k d s:=pieces_one e h
theorem pR (n:Nat) (fn:Func) {c:Code} {k:EK} {s:CSpec} (h:CSound Tryz.prog k (rfOf n fn) s) (e:pieces 3 n c=[rfOf n fn]:=by kernel_rfl):∀ d ∈ pieces 3 n c,CSound Tryz.prog k d s:=pieces_one e h
theorem pN {t n:Nat} {c:Code} {k:EK} {s:CSpec} (e:pieces t n c=[]:=by kernel_rfl):∀ d ∈ pieces t n c,CSound Tryz.prog k d s:=pieces_none e
abbrev T0:=Int × Bool
abbrev T1:=Bool × Int
abbrev T2:=Int × List Int
abbrev T3:=List Int × Int
abbrev T4:=Int × Int × Int
abbrev T5:=List (Int × Int)
abbrev T7:=Int × (Int × Int)
abbrev T8:=(Int × Int) × Int
abbrev T9:=List Int × List Int
abbrev T10:=List Int × Int × Int
abbrev T12:=Int × List Int × Int × Int
abbrev T13:=(Int × Int) × List (Int × Int)
abbrev T14:=List Int × Int × Int × List Int
abbrev T15:=List Int × List Int × Int × Int
abbrev T20:=Int × (Int × T7)
abbrev T21:=(Int × T0) × Int
abbrev T29:=Int × List Int × List Int × Int × List (T8) × List (Int × Int) × List (Int × Int)
abbrev T30:=Bool × List Int × List Int × Int × List (T8) × List (Int × Int) × List (Int × Int)
abbrev T32:=List (T20) × Int
abbrev T36:=List Int × List (T20)
abbrev T38:=List Int × List (T20) × Int
abbrev T41:=List Int × List (T20) × Int × Int
abbrev T42:=Int × Int × Int × List (T20) × Int × Int
abbrev T43:=List Int × List (T20) × Int × Int × List Int
abbrev T44:=List Int × List (T20) × Int × Bool × Int × Int × List Int
abbrev T45:=T20 × List Int × List Int × Int × List (T8) × List (Int × Int) × List (Int × Int)
abbrev T46:=List (T20) × T20 × List Int × List Int × Int × List (T8) × List (Int × Int) × List (Int × Int)
abbrev y0:Ty:=.slice .bool
abbrev y1:Ty:=.slice (.int .i64)
abbrev y2:Ty:=.arr 8 (.int .i64)
abbrev y3:Ty:=.arr 16 (.int .i64)
abbrev y4:Ty:=.pair (.int .i64) .bool
abbrev y5:Ty:=.pair .bool (.int .i64)
abbrev y6:Ty:=.pair (.int .i64) (.int .i64)
abbrev y7:Ty:=.pair (.int .i64) y6
abbrev y8:Ty:=.pair y6 (.int .i64)
abbrev y9:Ty:=.pair (.int .i64) y4
abbrev y10:Ty:=.pair (.int .i64) y1
abbrev y11:Ty:=.pair (.slice y1) y1
abbrev y12:Ty:=.pair y6 (.arr 8 y6)
abbrev y13:Ty:=.pair y1 (.int .i64)
abbrev y14:Ty:=.pair (.slice y5) .bool
abbrev y15:Ty:=.slice y10
abbrev y16:Ty:=.arr 4 y12
abbrev y17:Ty:=.slice y14
abbrev y19:Ty:=.pair (.int .i64) y7
abbrev y20:Ty:=.pair y9 (.int .i64)
abbrev y21:Ty:=.pair (.int .i64) y9
abbrev y27:Ty:=.slice y20
abbrev y31:Ty:=.pair (.int .i64) y19
abbrev y36:Ty:=.slice y31
abbrev bl_0:List BPat:=[.var (.pr (.hole y1) (.pr (.mp 1) (.pr (.hole y2) (.pr (.hole (.int .i64)) (.pr (.mp 2) (.pr (.mp 3) (.mp 4))))))),.mp y6 (.int .i64),.mp (.int .i64) (.int .i64),.mp (.int .i64) (.int .i64),.fm [1,3,5,6,7,11,12,14,15] (.cons (.fn 156 .nil (.cons (.ptr 5 []) .nil)) (.cons (.fn 157 .nil (.cons (.ptr 5 []) .nil)) (.cons (.fn 159 .nil (.cons (.ptr 5 []) .nil)) (.cons (.fn 160 .nil (.cons (.ptr 5 []) .nil)) (.cons (.fn 161 .nil (.cons (.ptr 5 []) .nil)) (.cons (.fn 162 .nil (.cons (.ptr 6 []) .nil)) (.cons (.fn 163 .nil (.cons (.ptr 6 []) .nil)) (.cons (.fn 164 .nil (.cons (.ptr 5 []) .nil)) (.cons (.fn 165 .nil (.cons (.ptr 5 []) .nil)) .nil))))))))),.var (.ptr 0 []),.var (.fn 154 .nil (.cons (.ptr 5 []) .nil))]
abbrev bl_1:List BPat:=[.var (.ptr 1 []),.var (.pr (.hole y1) (.pr (.mp 2) (.pr (.hole y2) (.pr (.hole (.int .i64)) (.pr (.mp 3) (.pr (.mp 4) (.mp 5))))))),.mp y6 (.int .i64),.mp (.int .i64) (.int .i64),.mp (.int .i64) (.int .i64),.fm [1,3,5,6,7,11,12,14,15] (.cons (.fn 156 .nil (.cons (.ptr 0 []) .nil)) (.cons (.fn 157 .nil (.cons (.ptr 0 []) .nil)) (.cons (.fn 159 .nil (.cons (.ptr 0 []) .nil)) (.cons (.fn 160 .nil (.cons (.ptr 0 []) .nil)) (.cons (.fn 161 .nil (.cons (.ptr 0 []) .nil)) (.cons (.fn 162 .nil (.cons (.ptr 6 []) .nil)) (.cons (.fn 163 .nil (.cons (.ptr 6 []) .nil)) (.cons (.fn 164 .nil (.cons (.ptr 0 []) .nil)) (.cons (.fn 165 .nil (.cons (.ptr 0 []) .nil)) .nil))))))))),.var (.fn 154 .nil (.cons (.ptr 0 []) .nil))]
abbrev bl_2:List BPat:=[.var (.fn 154 .nil (.cons (.ptr 1 []) .nil)),.var (.ptr 2 []),.var (.pr (.hole y1) (.pr (.mp 3) (.pr (.hole y2) (.pr (.hole (.int .i64)) (.pr (.mp 4) (.pr (.mp 5) (.mp 6))))))),.mp y6 (.int .i64),.mp (.int .i64) (.int .i64),.mp (.int .i64) (.int .i64),.fm [1,3,5,6,7,11,12,14,15] (.cons (.fn 156 .nil (.cons (.ptr 1 []) .nil)) (.cons (.fn 157 .nil (.cons (.ptr 1 []) .nil)) (.cons (.fn 159 .nil (.cons (.ptr 1 []) .nil)) (.cons (.fn 160 .nil (.cons (.ptr 1 []) .nil)) (.cons (.fn 161 .nil (.cons (.ptr 1 []) .nil)) (.cons (.fn 162 .nil (.cons (.ptr 0 []) .nil)) (.cons (.fn 163 .nil (.cons (.ptr 0 []) .nil)) (.cons (.fn 164 .nil (.cons (.ptr 1 []) .nil)) (.cons (.fn 165 .nil (.cons (.ptr 1 []) .nil)) .nil)))))))))]
abbrev bl_3:List BPat:=[.var (.pr (.hole y1) (.pr (.mp 1) (.pr (.mp 2) (.pr (.mp 3) (.pr (.mp 4) (.mp 5)))))),.mp y9 (.int .i64),.mp (.int .i64) (.int .i64),.mp (.int .i64) (.int .i64),.mo (.int .i64) (.int .i64),.mp (.int .i64) (.int .i64)]
abbrev bl_4:List BPat:=[.var (.sl 1),.row (.int .i64)]
abbrev bl_5:List BPat:=[.lpt 983052 [12] (.cons (.ptr 4 []) .nil),.var (.ptr 5 []),.var (.hole y31),.var (.hole (.int .i64)),.var (.sl 11),.var (.pr (.hole y1) (.pr (.mp 6) (.pr (.mp 7) (.pr (.mp 8) (.pr (.mp 9) (.mp 10)))))),.mp y9 (.int .i64),.mp (.int .i64) (.int .i64),.mp (.int .i64) (.int .i64),.mo (.int .i64) (.int .i64),.mp (.int .i64) (.int .i64),.row (.int .i64)]
abbrev bl_6:List BPat:=[.lp 983052 [12] (.cons (.ptr 4 []) .nil),.var (.ptr 5 []),.var (.hole y31),.var (.hole (.int .i64)),.var (.sl 11),.var (.pr (.hole y1) (.pr (.mp 6) (.pr (.mp 7) (.pr (.mp 8) (.pr (.mp 9) (.mp 10)))))),.mp y9 (.int .i64),.mp (.int .i64) (.int .i64),.mp (.int .i64) (.int .i64),.mo (.int .i64) (.int .i64),.mp (.int .i64) (.int .i64),.row (.int .i64)]
abbrev bl_7:List BPat:=[.var (.fn 115 .nil .nil)]
abbrev bl_8:List BPat:=[.var (.fn 70 .nil .nil)]
abbrev bl_9:List BPat:=[.row (.int .i64)]
abbrev bl_12:List BPat:=[.var (.hole y16),.var (.hole y1)]
abbrev ts_0:List Ty:=[(.int .i64),(.int .i64),(.int .i64)]
abbrev ts_1:List Ty:=[.bool]
abbrev ts_2:List Ty:=[(.int .i64)]
abbrev ts_3:List Ty:=[y1,(.int .i64),(.int .i64)]
abbrev ts_4:List Ty:=[y36,y31,y1,y2,(.int .i64),(.slice y8),(.slice y6),(.slice y6)]
abbrev ts_5:List Ty:=[.bool,y1,y2,(.int .i64),(.slice y8),(.slice y6),(.slice y6)]
abbrev ts_6:List Ty:=[(.int .i64),y1,y2,(.int .i64),(.slice y8),(.slice y6),(.slice y6)]
abbrev ts_7:List Ty:=[y31,y1,y2,(.int .i64),(.slice y8),(.slice y6),(.slice y6)]
abbrev ts_8:List Ty:=[(.int .i64),(.int .i64)]
abbrev ts_9:List Ty:=[y1,y27,(.slice y6),(.slice y6),y15,(.slice y6)]
abbrev ts_10:List Ty:=[(.int .i64),y31,y1,y27,(.slice y6),(.slice y6),y15,(.slice y6)]
abbrev ts_11:List Ty:=[(.int .i64),y1]
abbrev ts_12:List Ty:=[(.int .i64),y31,(.int .i64),y1,y27,(.slice y6),(.slice y6),y15,(.slice y6),y1]
abbrev ts_13:List Ty:=[y31,(.int .i64),y1,y27,(.slice y6),(.slice y6),y15,(.slice y6),y1]
abbrev ts_14:List Ty:=[y1,(.int .i64)]
abbrev ts_15:List Ty:=[.bool,(.int .i64)]
abbrev ts_16:List Ty:=[y1,y36,(.int .i64),(.int .i64)]
abbrev ts_17:List Ty:=[y1,y36,(.int .i64)]
abbrev ts_18:List Ty:=[(.int .i64),(.int .i64),(.int .i64),y36,(.int .i64),(.int .i64)]
abbrev ts_19:List Ty:=[y36,(.int .i64),(.int .i64),(.int .i64)]
abbrev ts_21:List Ty:=[y1,y36,(.int .i64),.bool,(.int .i64),(.int .i64),y1]
abbrev ts_22:List Ty:=[(.int .i64),y1,(.int .i64),(.int .i64)]
abbrev sl_0:List (Nat × Pat):=[(0,(.hole (.int .i64))),(1,(.hole (.int .i64))),(2,(.hole (.int .i64)))]
abbrev sl_1:List (Nat × Pat):=[(0,(.hole .bool))]
abbrev sl_2:List (Nat × Pat):=[(0,(.hole (.int .i64)))]
abbrev sl_3:List (Nat × Pat):=[(4,(.hole (.int .i64)))]
abbrev sl_4:List (Nat × Pat):=[(0,(.ptr 0 []))]
abbrev sl_5:List (Nat × Pat):=[(0,(.ptr 0 [])),(1,(.hole y36)),(2,(.hole y31))]
abbrev sl_6:List (Nat × Pat):=[(0,(.ptr 0 [])),(1,(.hole (.int .i64)))]
abbrev sl_7:List (Nat × Pat):=[(0,(.hole y31)),(1,(.ptr 0 []))]
abbrev sl_8:List (Nat × Pat):=[(0,(.ptr 0 [])),(1,(.hole (.int .i64))),(2,(.hole y31))]
abbrev sl_9:List (Nat × Pat):=[(0,(.hole y1)),(1,(.hole y36))]
abbrev sl_10:List (Nat × Pat):=[(0,(.hole (.int .i64))),(1,(.hole (.int .i64)))]
abbrev sl_11:List (Nat × Pat):=[(0,(.hole y1))]
abbrev sl_12:List (Nat × Pat):=[(0,(.hole (.slice y1))),(1,(.fn 113 .nil (.cons (.ptr 0 []) .nil)))]
abbrev sl_13:List (Nat × Pat):=[(6,(.ptr 0 [])),(16,(.hole y1)),(17,(.hole (.int .i64))),(18,(.hole (.int .i64)))]
abbrev sl_14:List (Nat × Pat):=[(0,(.hole y1)),(1,(.hole (.int .i64)))]
abbrev sl_15:List (Nat × Pat):=[(0,(.hole .bool)),(1,(.hole (.int .i64)))]
abbrev sl_16:List (Nat × Pat):=[(0,(.hole y1)),(1,(.hole y36)),(2,(.hole (.int .i64))),(3,(.hole (.int .i64)))]
abbrev sl_17:List (Nat × Pat):=[(0,(.hole y1)),(1,(.hole y36)),(2,(.hole (.int .i64)))]
abbrev sl_19:List (Nat × Pat):=[(0,(.hole y36)),(1,(.hole (.int .i64)))]
abbrev sl_20:List (Nat × Pat):=[(0,(.hole y36)),(1,(.hole (.int .i64))),(2,(.hole (.int .i64))),(3,(.hole (.int .i64)))]
abbrev sl_21:List (Nat × Pat):=[(0,(.hole y1)),(1,(.hole y36)),(2,(.hole (.int .i64))),(7,(.sl 0)),(8,(.hole (.int .i64)))]
abbrev sl_23:List (Nat × Pat):=[(1,(.hole y36)),(6,(.hole (.slice y1))),(8,(.sl 0)),(21,(.hole (.int .i64))),(22,(.hole (.int .i64)))]
abbrev sl_24:List (Nat × Pat):=[(0,(.hole y1)),(1,(.hole y36)),(5,(.sl 0)),(6,(.hole (.int .i64))),(7,(.hole .bool)),(16,(.hole (.int .i64))),(17,(.hole (.int .i64)))]
abbrev sl_25:List (Nat × Pat):=[(0,(.hole y1)),(1,(.hole y36)),(8,(.hole (.int .i64))),(9,(.hole (.int .i64)))]
abbrev Zfu:Shape:=⟨sl_0,[],ts_0,0⟩
abbrev Zio:Shape:=⟨sl_1,[],ts_1,0⟩
def Z3y (x:T4):Option (Bool) :=
 bif (decide (x.1 ≥ x.2.1)) then
 some (decide (x.1 <= x.2.2))
 else
 some false
abbrev Zlh:=Spec.shp Zfu Zio Z3y
def Zau:Ctx:=mC [] [] 15 0
theorem Z3z:Sound Tryz.prog 101 (Zlh) :=
 tS Zau Tryz.f101 trivial
abbrev Zft:Shape:=⟨sl_2,[],ts_2,0⟩
abbrev Zin:Shape:=⟨sl_1,[],ts_1,0⟩
def Z3v (x:(Int)):Option (Bool) :=
 (Z3y (x,(Int.negSucc 0),3)).bind fun r11 =>
 some (Bool.not r11)
abbrev Zlg:=Spec.shp Zft Zin Z3v
def Zas:Ctx:=mC [(101,[],Zlh)] [] 6 0
theorem Z3w:Sound Tryz.prog 100 (Zlg) :=
 tS Zas Tryz.f100 ⟨Z3z,trivial⟩
abbrev Zdl:Shape:=⟨[(0,(.hole y1)),(1,(.fn 100 .nil .nil)),(7,(.hole (.int .i64))),(8,(.hole (.int .i64)))],[],ts_3,0⟩
abbrev Zcj:List (ETag × Shape):=[(.ret,⟨sl_3,[],ts_2,0⟩),(.exit 0,⟨[],[],[],0⟩)]
def Z7a (x:T10):Option (T10 ⊕ ((Int) ⊕ Unit)) :=
 bif (decide (x.2.2 < x.2.1)) then
 bif (inb x.2.2 (List.length x.1)) then
 (Z3v (getAt 0 x.1 (toN x.2.2))).bind fun r10 =>
 bif r10 then
 some (.inr (.inl x.2.2))
 else
 some (.inl (x.1,x.2.1,(IntKind.wrap .i64 (x.2.2+1))))
 else
 none
 else
 some (.inr (.inr ()))
def Zad:Ctx:=mC [(100,[],Zlg)] [] 19 0
theorem Z7b:CSound Tryz.prog ⟨19,0,true⟩ (.loop (loopOf 3 Tryz.f126)) (pieceSpec Zdl Zcj (loop Z7a)) :=
 tL Zad 3 Tryz.f126 ⟨Z3w,trivial⟩
abbrev Zfk:Shape:=⟨[(0,(.hole y1)),(1,(.fn 100 .nil .nil))],[],[y1],0⟩
abbrev Zie:Shape:=⟨sl_2,[],ts_2,0⟩
def Z3e (x:(List Int)):Option (Int) :=
 (loop Z7a (x,(((List.length x):Nat):Int),0)).bind fun r9 =>
 match r9 with
 | .inl y10 =>
 some y10
 | .inr y10 =>
 some (Int.negSucc 0)
abbrev Zl7:=Spec.shp Zfk Zie Z3e
def Zac:Ctx:=mC [(100,[],Zlg)] [(0,3,pieceSpec Zdl Zcj (loop Z7a))] 19 0
theorem Z3f:Sound Tryz.prog 126 (Zl7) :=
 tS Zac Tryz.f126 ⟨Z3w,trivial⟩ ⟨(pL 3 Tryz.f126 Z7b),trivial⟩
abbrev Zff:Shape:=⟨[(0,(.hole y1)),(1,(.fn 100 .nil .nil))],[],[y1],0⟩
abbrev Zi9:Shape:=⟨sl_1,[],ts_1,0⟩
def Z34 (x:(List Int)):Option (Bool) :=
 (Z3e x).bind fun r8 =>
 some (decide (r8 ≥ 0))
abbrev Zl2:=Spec.shp Zff Zi9 Z34
def Za6:Ctx:=mC [(126,[100],Zl7)] [] 9 0
theorem Z35:Sound Tryz.prog 92 (Zl2) :=
 tS Za6 Tryz.f92 ⟨Z3f,trivial⟩
abbrev Zgd:Shape:=⟨[],[],[],0⟩
abbrev Zj7:Shape:=⟨[(0,(.mp 0))],[.mp (.int .i64) (.int .i64)],[(.slice y6)],0⟩
def Z52 (x:Unit):Option T5 :=
 some (@mput (Int) (Int) (Ty.beq (.int .i64)) (15:Int) (13:Int) (@mput (Int) (Int) (Ty.beq (.int .i64)) (11:Int) (10:Int) (@mput (Int) (Int) (Ty.beq (.int .i64)) (9:Int) (8:Int) (@mput (Int) (Int) (Ty.beq (.int .i64)) (6:Int) (4:Int) (@mput (Int) (Int) (Ty.beq (.int .i64)) (5:Int) (4:Int) (@mput (Int) (Int) (Ty.beq (.int .i64)) (3:Int) (2:Int) ([]:List (Int × Int))))))))
abbrev Zm0:=Spec.shp Zgd Zj7 Z52
def Zbd:Ctx:=mC [] [] 3 0
theorem Z53:Sound Tryz.prog 102 (Zm0) :=
 tS Zbd Tryz.f102 trivial
abbrev Zg2:Shape:=⟨sl_4,[.var (.pr (.hole y1) (.pr (.mp 1) (.pr (.hole y2) (.pr (.hole (.int .i64)) (.pr (.mp 2) (.pr (.mp 3) .nilm)))))),.mp y6 (.int .i64),.mp (.int .i64) (.int .i64),.mp (.int .i64) (.int .i64)],[y1,y2,(.int .i64),(.slice y8),(.slice y6),(.slice y6)],0⟩
abbrev Ziw:Shape:=⟨[(0,(.mp 4))],[.var (.pr (.hole y1) (.pr (.mp 1) (.pr (.hole y2) (.pr (.hole (.int .i64)) (.pr (.mp 2) (.pr (.mp 3) .nilm)))))),.mp y6 (.int .i64),.mp (.int .i64) (.int .i64),.mp (.int .i64) (.int .i64),.fm [1,3,5,6,7,11,12,14,15] (.cons (.fn 156 .nil (.cons (.ptr 5 []) .nil)) (.cons (.fn 157 .nil (.cons (.ptr 5 []) .nil)) (.cons (.fn 159 .nil (.cons (.ptr 5 []) .nil)) (.cons (.fn 160 .nil (.cons (.ptr 5 []) .nil)) (.cons (.fn 161 .nil (.cons (.ptr 5 []) .nil)) (.cons (.fn 162 .nil (.cons (.ptr 6 []) .nil)) (.cons (.fn 163 .nil (.cons (.ptr 6 []) .nil)) (.cons (.fn 164 .nil (.cons (.ptr 5 []) .nil)) (.cons (.fn 165 .nil (.cons (.ptr 5 []) .nil)) .nil))))))))),.var (.ptr 0 []),.var (.fn 154 .nil (.cons (.ptr 5 []) .nil))],[y1,y2,(.int .i64),(.slice y8),(.slice y6),(.slice y6)],4⟩
def Z4f (x:(List Int × List Int × Int × List (T8) × List (Int × Int) × List (Int × Int))):Option (List Int × List Int × Int × List (T8) × List (Int × Int) × List (Int × Int)) :=
 some (x.1,x.2.1,x.2.2.1,x.2.2.2.1,x.2.2.2.2.1,x.2.2.2.2.2)
abbrev Zlp:=Spec.shp Zg2 Ziw Z4f
def Zb2:Ctx:=mC [] [] 16 4
theorem Z51:Sound Tryz.prog 103 (Zlp) :=
 tS Zb2 Tryz.f103 trivial
abbrev Zfw:Shape:=⟨sl_5,bl_0,ts_4,0⟩
abbrev Ziq:Shape:=⟨sl_1,bl_0,ts_5,7⟩
def Z42 (x:T46):Option T30 :=
 let q:=x.2.2.2;
 let p:=(x.2.2.1,q.1,q.2.1,q.2.2.1,q.2.2.2.1,q.2.2.2.2);
 bif (inb x.2.1.1 8) then
 bif (decide ((getAt 0 q.1 (toN x.2.1.1)) > 0)) then
 some (false,p)
 else
 bif (x.2.1.2.2.1 != 0) then
 some (false,p)
 else
 bif (x.2.1.2.2.2.1 != 0) then
 some (false,p)
 else
 bif (x.2.1.1 == 0) then
 some ((x.2.1.2.2.2.2 == (Int.negSucc 0)),p)
 else
 bif (x.2.1.2.2.2.2 != (Int.negSucc 0)) then
 bif (inb x.2.1.2.2.2.2 (List.length x.1)) then
 bif ((getAt (0,0,0,0,0) x.1 (toN x.2.1.2.2.2.2)).2.1 == 1) then
 bif (inb x.2.1.2.2.2.2 (List.length x.1)) then
 some (((getAt (0,0,0,0,0) x.1 (toN x.2.1.2.2.2.2)).2.2.1 == x.2.1.1),p)
 else
 none
 else
 some (false,p)
 else
 none
 else
 some (false,p)
 else
 none
abbrev Zlj:=Spec.shp Zfw Ziq Z42
def Zaw:Ctx:=mC [] [] 54 7
theorem Z43:Sound Tryz.prog 222 (Zlj) :=
 tS Zaw Tryz.f222 trivial
abbrev Zfz:Shape:=⟨sl_6,bl_0,ts_6,0⟩
abbrev Zit:Shape:=⟨sl_2,bl_0,ts_6,7⟩
def Z49 (x:T29):Option T29 :=
 let p:=x.2.2.2;
 let q:=p.2.2;
 (Z3y (x.1,2,7)).bind fun r17 =>
 bif r17 then
 some ((((List.length x.2.1):Nat):Int),x.2.1,x.2.2.1,p.1,p.2.1,q.1,q.2)
 else
 (Z3y (x.1,10,15)).bind fun r18 =>
 bif r18 then
 some (2,x.2.1,x.2.2.1,p.1,p.2.1,q.1,q.2)
 else
 (Z3y (x.1,8,17)).bind fun r19 =>
 bif r19 then
 some (4,x.2.1,x.2.2.1,p.1,p.2.1,q.1,q.2)
 else
 some (1,x.2.1,x.2.2.1,p.1,p.2.1,q.1,q.2)
abbrev Zlm:=Spec.shp Zfz Zit Z49
def Zaz:Ctx:=mC [(101,[],Zlh)] [] 19 7
theorem Z4a:Sound Tryz.prog 223 (Zlm) :=
 tS Zaz Tryz.f223 ⟨Z3z,trivial⟩
abbrev Zfv:Shape:=⟨sl_5,bl_0,ts_4,0⟩
abbrev Zip:Shape:=⟨sl_1,bl_0,ts_5,7⟩
def Z40 (x:T46):Option T30 :=
 let s:=x.2.2.2;
 let u:=s.2.2.2;
 let q:=(getAt ((0:Int),(0:Int),(0:Int),(0:Int),(0:Int)) x.1 (toN x.2.1.2.2.2.2));
 let p:=(x.2.2.1,s.1,s.2.1,s.2.2.1,u.1,u.2);
 bif (Bool.not (@mhas (Int) (Int) (Ty.beq (.int .i64)) x.2.1.2.1 u.2)) then
 some ((x.2.1.2.2.2.2 == (Int.negSucc 0)),p)
 else
 bif (x.2.1.2.2.2.2 == (Int.negSucc 0)) then
 some (false,p)
 else
 bif (inb x.2.1.1 8) then
 bif (x.2.1.2.2.2.2 != (IntKind.wrap .i64 ((getAt 0 s.1 (toN x.2.1.1)) - 1))) then
 some (false,p)
 else
 bif (inb x.2.1.2.2.2.2 (List.length x.1)) then
 bif (q.2.1 == (@mlook (Int) (Int) (Ty.beq (.int .i64)) (Ty.zero (.int .i64)) x.2.1.2.1 u.2)) then
 bif (q.2.2.1 == x.2.1.2.2.1) then
 some (true,p)
 else
 bif (q.2.1 == 8) then
 some ((decide (x.2.1.2.1 <= 6)),p)
 else
 some (false,p)
 else
 bif (q.2.1 == 8) then
 some ((decide (x.2.1.2.1 <= 6)),p)
 else
 some (false,p)
 else
 none
 else
 none
abbrev Zli:=Spec.shp Zfv Zip Z40
def Zav:Ctx:=mC [] [] 67 7
theorem Z41:Sound Tryz.prog 224 (Zli) :=
 tS Zav Tryz.f224 trivial
abbrev Zg5:Shape:=⟨sl_7,bl_1,ts_7,0⟩
abbrev Ziz:Shape:=⟨sl_1,bl_1,ts_5,7⟩
def Z4k (x:T45):Option T30 :=
 let p:=x.2.2.2;
 some ((x.1.2.2.1 == p.1),x.2.1,x.2.2.1,p.1,p.2.1,p.2.2.1,p.2.2.2)
abbrev Zls:=Spec.shp Zg5 Ziz Z4k
def Zb5:Ctx:=mC [] [] 11 7
theorem Z4l:Sound Tryz.prog 156 (Zls) :=
 tS Zb5 Tryz.f156 trivial
theorem Z4m:Sound Tryz.prog 156 (Spec.shpR Zg5 Ziz Z4k) :=
 Sound.shpR (fun x y h=>by have h:=Option.some.inj h; subst h; rfl) Z4l
abbrev Zg0:Shape:=⟨[(0,(.ptr 0 [])),(1,(.hole y31))],bl_0,ts_7,0⟩
abbrev Ziu:Shape:=⟨sl_1,bl_0,ts_5,7⟩
def Z4b (x:T45):Option T30 :=
 let p:=x.2.2.2;
 bif (inb x.1.2.2.1 (List.length x.2.1)) then
 some ((decide ((getAt 0 x.2.1 (toN x.1.2.2.1)) ≥ 0)),x.2.1,x.2.2.1,p.1,p.2.1,p.2.2.1,p.2.2.2)
 else
 none
abbrev Zln:=Spec.shp Zg0 Ziu Z4b
def Zb0:Ctx:=mC [] [] 14 7
theorem Z4c:Sound Tryz.prog 158 (Zln) :=
 tS Zb0 Tryz.f158 trivial
abbrev Zfy:Shape:=⟨sl_8,bl_0,[(.int .i64),y31,y1,y2,(.int .i64),(.slice y8),(.slice y6),(.slice y6)],0⟩
abbrev Zis:Shape:=⟨sl_2,bl_0,ts_6,7⟩
def Z46 (x:(Int × T20 × List Int × List Int × Int × List (T8) × List (Int × Int) × List (Int × Int))):Option T29 :=
 let p:=x.2.2.2.2;
 some ((@mlook (Int × Int) (Int) (Ty.beq y6) (Ty.zero (.int .i64)) (x.1,x.2.1.2.2.1) p.2.1),x.2.2.1,x.2.2.2.1,p.1,p.2.1,p.2.2.1,p.2.2.2)
abbrev Zll:=Spec.shp Zfy Zis Z46
def Zay:Ctx:=mC [] [] 16 7
theorem Z47:Sound Tryz.prog 155 (Zll) :=
 tS Zay Tryz.f155 trivial
theorem Z48:Sound Tryz.prog 155 (Spec.shpR Zfy Zis Z46) :=
 Sound.shpR (fun x y h=>by have h:=Option.some.inj h; subst h; rfl) Z47
abbrev Zg6:Shape:=⟨sl_7,bl_1,ts_7,0⟩
abbrev Zj0:Shape:=⟨sl_1,bl_1,ts_5,7⟩
def Z4n (x:T45):Option T30 :=
 let s:=x.2.2.2;
 (Z4b (x.1,x.2.1,x.2.2.1,s.1,s.2.1,s.2.2.1,s.2.2.2)).bind fun r20 =>
 let q:=r20.2.2;
 let p:=(r20.2.1,q.1,q.2.1,q.2.2.1,q.2.2.2.1,q.2.2.2.2);
 bif r20.1 then
 (Z46 (7,x.1,p)).bind fun r21 =>
 bif (r21.1 == 0) then
 (Z46 (3,x.1,p)).bind fun r22 =>
 bif (x.1.2.2.2.1 == r22.1) then
 (Z46 (5,x.1,p)).bind fun r23 =>
 bif (inb x.1.2.2.1 (List.length r20.2.1)) then
 some ((decide (x.1.2.2.2.1 <= (IntKind.wrap .i64 (r23.1+(getAt 0 r20.2.1 (toN x.1.2.2.1)))))),p)
 else
 none
 else
 some (false,p)
 else
 some (false,p)
 else
 some (false,p)
abbrev Zlt:=Spec.shp Zg6 Zj0 Z4n
def Zb6:Ctx:=mC [(158,[],Spec.thin (Zln)),(155,[],Spec.shpR Zfy Zis Z46)] [] 38 7
theorem Z4o:Sound Tryz.prog 157 (Zlt) :=
 tS Zb6 Tryz.f157 ⟨Z4c.thin,Z48,trivial⟩
abbrev Zg7:Shape:=⟨sl_7,bl_1,ts_7,0⟩
abbrev Zj1:Shape:=⟨sl_1,bl_1,ts_5,7⟩
def Z4p (x:T45):Option T30 :=
 let u:=x.2.2.2;
 (Z4b (x.1,x.2.1,x.2.2.1,u.1,u.2.1,u.2.2.1,u.2.2.2)).bind fun r20 =>
 let s:=r20.2.2;
 let p:=s.2;
 let q:=p.2.2;
 bif r20.1 then
 (Z46 (5,x.1,r20.2.1,s.1,p.1,p.2.1,q.1,q.2)).bind fun r21 =>
 bif (x.1.2.2.2.1 == r21.1) then
 (Z46 (3,x.1,r20.2.1,s.1,p.1,p.2.1,q.1,q.2)).bind fun r22 =>
 some ((decide (x.1.2.2.2.1 <= r22.1)),r20.2.1,s.1,p.1,p.2.1,q.1,q.2)
 else
 some (false,r20.2.1,s.1,p.1,p.2.1,q.1,q.2)
 else
 some (false,r20.2.1,s.1,p.1,p.2.1,q.1,q.2)
abbrev Zlu:=Spec.shp Zg7 Zj1 Z4p
def Zb7:Ctx:=mC [(158,[],Spec.thin (Zln)),(155,[],Spec.shpR Zfy Zis Z46)] [] 23 7
theorem Z4q:Sound Tryz.prog 159 (Zlu) :=
 tS Zb7 Tryz.f159 ⟨Z4c.thin,Z48,trivial⟩
abbrev Zg8:Shape:=⟨sl_7,bl_1,ts_7,0⟩
abbrev Zj2:Shape:=⟨sl_1,bl_1,ts_5,7⟩
def Z4r (x:T45):Option T30 :=
 let s:=x.2.2;
 let p:=s.2;
 let q:=p.2.2;
 (Z46 (7,x.1,x.2.1,s.1,p.1,p.2.1,q.1,q.2)).bind fun r20 =>
 bif (decide (r20.1 > 0)) then
 (Z46 (5,x.1,x.2.1,s.1,p.1,p.2.1,q.1,q.2)).bind fun r21 =>
 (Z46 (3,x.1,x.2.1,s.1,p.1,p.2.1,q.1,q.2)).bind fun r22 =>
 some ((r21.1 == r22.1),x.2.1,s.1,p.1,p.2.1,q.1,q.2)
 else
 some (false,x.2.1,s.1,p.1,p.2.1,q.1,q.2)
abbrev Zlv:=Spec.shp Zg8 Zj2 Z4r
def Zb8:Ctx:=mC [(155,[],Spec.shpR Zfy Zis Z46)] [] 17 7
theorem Z4s:Sound Tryz.prog 160 (Zlv) :=
 tS Zb8 Tryz.f160 ⟨Z48,trivial⟩
abbrev Zg9:Shape:=⟨sl_7,bl_1,ts_7,0⟩
abbrev Zj3:Shape:=⟨sl_1,bl_1,ts_5,7⟩
def Z4t (x:T45):Option T30 :=
 let u:=x.2.2.2;
 (Z4b (x.1,x.2.1,x.2.2.1,u.1,u.2.1,u.2.2.1,u.2.2.2)).bind fun r20 =>
 let s:=r20.2.2;
 let p:=s.2;
 let q:=p.2.2;
 bif r20.1 then
 (Z46 (7,x.1,r20.2.1,s.1,p.1,p.2.1,q.1,q.2)).bind fun r21 =>
 some ((r21.1 == 0),r20.2.1,s.1,p.1,p.2.1,q.1,q.2)
 else
 some (false,r20.2.1,s.1,p.1,p.2.1,q.1,q.2)
abbrev Zlw:=Spec.shp Zg9 Zj3 Z4t
def Zb9:Ctx:=mC [(158,[],Spec.thin (Zln)),(155,[],Spec.shpR Zfy Zis Z46)] [] 13 7
theorem Z4u:Sound Tryz.prog 161 (Zlw) :=
 tS Zb9 Tryz.f161 ⟨Z4c.thin,Z48,trivial⟩
abbrev Zg3:Shape:=⟨sl_7,bl_1,ts_7,0⟩
abbrev Zix:Shape:=⟨sl_2,bl_1,ts_6,7⟩
def Z4g (x:T45):Option T29 :=
 let p:=x.2.2.2;
 let q:=p.2.2;
 (Z46 (11,x.1,x.2.1,x.2.2.1,p.1,p.2.1,q.1,q.2)).bind fun r21 =>
 (Z46 (12,x.1,x.2.1,x.2.2.1,p.1,p.2.1,q.1,q.2)).bind fun r22 =>
 some ((IntKind.wrap .i64 (r21.1 - r22.1)),x.2.1,x.2.2.1,p.1,p.2.1,q.1,q.2)
abbrev Zlq:=Spec.shp Zg3 Zix Z4g
def Zb3:Ctx:=mC [(155,[],Spec.shpR Zfy Zis Z46)] [] 11 7
theorem Z4j:Sound Tryz.prog 154 (Zlq) :=
 tS Zb3 Tryz.f154 ⟨Z48,trivial⟩
abbrev Zga:Shape:=⟨sl_7,bl_2,ts_7,0⟩
abbrev Zj4:Shape:=⟨sl_1,bl_2,ts_5,7⟩
def Z4v (x:T45):Option T30 :=
 let q:=x.2.2.2;
 (Z4g (x.1,x.2.1,x.2.2.1,q.1,q.2.1,q.2.2.1,q.2.2.2)).bind fun r20 =>
 let p:=r20.2.2;
 some ((r20.1 == 0),r20.2.1,p.1,p.2.1,p.2.2.1,p.2.2.2.1,p.2.2.2.2)
abbrev Zlx:=Spec.shp Zga Zj4 Z4v
def Zba:Ctx:=mC [(154,[],Spec.thin (Zlq))] [] 8 7
theorem Z4w:Sound Tryz.prog 162 (Zlx) :=
 tS Zba Tryz.f162 ⟨Z4j.thin,trivial⟩
abbrev Zgb:Shape:=⟨sl_7,bl_2,ts_7,0⟩
abbrev Zj5:Shape:=⟨sl_1,bl_2,ts_5,7⟩
def Z4x (x:T45):Option T30 :=
 let q:=x.2.2.2;
 (Z4g (x.1,x.2.1,x.2.2.1,q.1,q.2.1,q.2.2.1,q.2.2.2)).bind fun r20 =>
 let p:=r20.2.2;
 some ((r20.1 == 1),r20.2.1,p.1,p.2.1,p.2.2.1,p.2.2.2.1,p.2.2.2.2)
abbrev Zly:=Spec.shp Zgb Zj5 Z4x
def Zbb:Ctx:=mC [(154,[],Spec.thin (Zlq))] [] 8 7
theorem Z4y:Sound Tryz.prog 163 (Zly) :=
 tS Zbb Tryz.f163 ⟨Z4j.thin,trivial⟩
abbrev Zgc:Shape:=⟨sl_7,bl_1,ts_7,0⟩
abbrev Zj6:Shape:=⟨sl_1,bl_1,ts_5,7⟩
def Z4z (x:T45):Option T30 :=
 let p:=x.2.2.2;
 let q:=p.2.2;
 (Z46 (14,x.1,x.2.1,x.2.2.1,p.1,p.2.1,q.1,q.2)).bind fun r20 =>
 bif (r20.1 == 0) then
 some (((@mlook (Int) (Int) (Ty.beq (.int .i64)) (Ty.zero (.int .i64)) x.1.2.2.1 q.1) == (IntKind.wrap .i64 (x.1.1+(1:Int)))),x.2.1,x.2.2.1,p.1,p.2.1,q.1,q.2)
 else
 some (false,x.2.1,x.2.2.1,p.1,p.2.1,q.1,q.2)
abbrev Zlz:=Spec.shp Zgc Zj6 Z4z
def Zbc:Ctx:=mC [(155,[],Spec.shpR Zfy Zis Z46)] [] 21 7
theorem Z50:Sound Tryz.prog 164 (Zlz) :=
 tS Zbc Tryz.f164 ⟨Z48,trivial⟩
abbrev Zg4:Shape:=⟨sl_7,bl_1,ts_7,0⟩
abbrev Ziy:Shape:=⟨sl_1,bl_1,ts_5,7⟩
def Z4h (x:T45):Option T30 :=
 let p:=x.2.2.2;
 (Z46 (14,x.1,x.2.1,x.2.2.1,p.1,p.2.1,p.2.2.1,p.2.2.2)).bind fun r20 =>
 some ((decide (r20.1 > 0)),x.2.1,x.2.2.1,p.1,p.2.1,p.2.2.1,p.2.2.2)
abbrev Zlr:=Spec.shp Zg4 Ziy Z4h
def Zb4:Ctx:=mC [(155,[],Spec.shpR Zfy Zis Z46)] [] 8 7
theorem Z4i:Sound Tryz.prog 165 (Zlr) :=
 tS Zb4 Tryz.f165 ⟨Z48,trivial⟩
abbrev Zg1:Shape:=⟨sl_5,bl_0,ts_4,0⟩
abbrev Ziv:Shape:=⟨sl_1,bl_0,ts_5,7⟩
def Z4d (x:T46):Option T30 :=
 let w:=x.2.2.2;
 let v:=(eqI x.2.1.2.1 (15:Int));
 let u:=(eqI x.2.1.2.1 (14:Int));
 let s:=(eqI x.2.1.2.1 (12:Int));
 let q:=(eqI x.2.1.2.1 (11:Int));
 let p:=(x.2.2.1,w.1,w.2.1,w.2.2.1,w.2.2.2.1,w.2.2.2.2);
 (Z3y (x.2.1.1,0,7)).bind fun r13 =>
 bif (Bool.not r13) then
 some (false,p)
 else
 (Z3y (x.2.1.2.1,0,17)).bind fun r14 =>
 bif (Bool.not r14) then
 some (false,p)
 else
 bif (decide (x.2.1.2.2.2.1 < 0)) then
 some (false,p)
 else
 (Z3y (x.2.1.2.2.2.2,(Int.negSucc 0),(IntKind.wrap .i64 ((((List.length x.1):Nat):Int) - 1)))).bind fun r15 =>
 bif (Bool.not r15) then
 some (false,p)
 else
 bif (x.2.1.2.1 == 0) then
 (Z42 (x.1,x.2.1,p)).bind fun r16 =>
 some (r16.1,r16.2.1,r16.2.2.1,r16.2.2.2.1,r16.2.2.2.2.1,r16.2.2.2.2.2.1,r16.2.2.2.2.2.2)
 else
 bif (x.2.1.2.1 == 3) then
 bif (inb x.2.1.1 8) then
 bif ((getAt 0 w.1 (toN x.2.1.1)) == 0) then
 some (false,p)
 else
 bif (x.2.1.2.1 != 1) then
 (Z49 (x.2.1.2.1,p)).bind fun r16 =>
 (Z3y (x.2.1.2.2.1,0,(IntKind.wrap .i64 (r16.1 - 1)))).bind fun r17 =>
 bif (Bool.not r17) then
 some (false,r16.2.1,r16.2.2.1,r16.2.2.2.1,r16.2.2.2.2.1,r16.2.2.2.2.2.1,r16.2.2.2.2.2.2)
 else
 (Z40 (x.1,x.2.1,r16.2.1,r16.2.2.1,r16.2.2.2.1,r16.2.2.2.2.1,r16.2.2.2.2.2.1,r16.2.2.2.2.2.2)).bind fun r18 =>
 bif (Bool.not r18.1) then
 some (false,r18.2.1,r18.2.2.1,r18.2.2.2.1,r18.2.2.2.2.1,r18.2.2.2.2.2.1,r18.2.2.2.2.2.2)
 else
 bif (eqI x.2.1.2.1 1) then
 (Z4k (x.2.1,r18.2.1,r18.2.2.1,r18.2.2.2.1,r18.2.2.2.2.1,r18.2.2.2.2.2.1,r18.2.2.2.2.2.2)).bind fun r19 =>
 some (r19.1,r18.2.1,r18.2.2.1,r18.2.2.2.1,r18.2.2.2.2.1,r18.2.2.2.2.2.1,r18.2.2.2.2.2.2)
 else
 bif (eqI x.2.1.2.1 3) then
 (Z4n (x.2.1,r18.2.1,r18.2.2.1,r18.2.2.2.1,r18.2.2.2.2.1,r18.2.2.2.2.2.1,r18.2.2.2.2.2.2)).bind fun r19 =>
 some (r19.1,r19.2.1,r19.2.2.1,r19.2.2.2.1,r19.2.2.2.2.1,r19.2.2.2.2.2.1,r19.2.2.2.2.2.2)
 else
 bif (eqI x.2.1.2.1 5) then
 (Z4p (x.2.1,r18.2.1,r18.2.2.1,r18.2.2.2.1,r18.2.2.2.2.1,r18.2.2.2.2.2.1,r18.2.2.2.2.2.2)).bind fun r19 =>
 some (r19.1,r19.2.1,r19.2.2.1,r19.2.2.2.1,r19.2.2.2.2.1,r19.2.2.2.2.2.1,r19.2.2.2.2.2.2)
 else
 bif (eqI x.2.1.2.1 6) then
 (Z4r (x.2.1,r18.2.1,r18.2.2.1,r18.2.2.2.1,r18.2.2.2.2.1,r18.2.2.2.2.2.1,r18.2.2.2.2.2.2)).bind fun r19 =>
 some (r19.1,r19.2.1,r19.2.2.1,r19.2.2.2.1,r19.2.2.2.2.1,r19.2.2.2.2.2.1,r19.2.2.2.2.2.2)
 else
 bif (eqI x.2.1.2.1 7) then
 (Z4t (x.2.1,r18.2.1,r18.2.2.1,r18.2.2.2.1,r18.2.2.2.2.1,r18.2.2.2.2.2.1,r18.2.2.2.2.2.2)).bind fun r19 =>
 some (r19.1,r19.2.1,r19.2.2.1,r19.2.2.2.1,r19.2.2.2.2.1,r19.2.2.2.2.2.1,r19.2.2.2.2.2.2)
 else
 bif q then
 (Z4v (x.2.1,r18.2.1,r18.2.2.1,r18.2.2.2.1,r18.2.2.2.2.1,r18.2.2.2.2.2.1,r18.2.2.2.2.2.2)).bind fun r19 =>
 some (r19.1,r19.2.1,r19.2.2.1,r19.2.2.2.1,r19.2.2.2.2.1,r19.2.2.2.2.2.1,r19.2.2.2.2.2.2)
 else
 bif s then
 (Z4x (x.2.1,r18.2.1,r18.2.2.1,r18.2.2.2.1,r18.2.2.2.2.1,r18.2.2.2.2.2.1,r18.2.2.2.2.2.2)).bind fun r19 =>
 some (r19.1,r19.2.1,r19.2.2.1,r19.2.2.2.1,r19.2.2.2.2.1,r19.2.2.2.2.2.1,r19.2.2.2.2.2.2)
 else
 bif u then
 (Z4z (x.2.1,r18.2.1,r18.2.2.1,r18.2.2.2.1,r18.2.2.2.2.1,r18.2.2.2.2.2.1,r18.2.2.2.2.2.2)).bind fun r19 =>
 some (r19.1,r19.2.1,r19.2.2.1,r19.2.2.2.1,r19.2.2.2.2.1,r19.2.2.2.2.2.1,r19.2.2.2.2.2.2)
 else
 bif v then
 (Z4h (x.2.1,r18.2.1,r18.2.2.1,r18.2.2.2.1,r18.2.2.2.2.1,r18.2.2.2.2.2.1,r18.2.2.2.2.2.2)).bind fun r19 =>
 some (r19.1,r19.2.1,r19.2.2.1,r19.2.2.2.1,r19.2.2.2.2.1,r19.2.2.2.2.2.1,r19.2.2.2.2.2.2)
 else
 some (true,r18.2.1,r18.2.2.1,r18.2.2.2.1,r18.2.2.2.2.1,r18.2.2.2.2.2.1,r18.2.2.2.2.2.2)
 else
 (Z40 (x.1,x.2.1,p)).bind fun r16 =>
 bif (Bool.not r16.1) then
 some (false,r16.2.1,r16.2.2.1,r16.2.2.2.1,r16.2.2.2.2.1,r16.2.2.2.2.2.1,r16.2.2.2.2.2.2)
 else
 bif (eqI x.2.1.2.1 1) then
 (Z4k (x.2.1,r16.2.1,r16.2.2.1,r16.2.2.2.1,r16.2.2.2.2.1,r16.2.2.2.2.2.1,r16.2.2.2.2.2.2)).bind fun r17 =>
 some (r17.1,r16.2.1,r16.2.2.1,r16.2.2.2.1,r16.2.2.2.2.1,r16.2.2.2.2.2.1,r16.2.2.2.2.2.2)
 else
 bif (eqI x.2.1.2.1 3) then
 (Z4n (x.2.1,r16.2.1,r16.2.2.1,r16.2.2.2.1,r16.2.2.2.2.1,r16.2.2.2.2.2.1,r16.2.2.2.2.2.2)).bind fun r17 =>
 some (r17.1,r17.2.1,r17.2.2.1,r17.2.2.2.1,r17.2.2.2.2.1,r17.2.2.2.2.2.1,r17.2.2.2.2.2.2)
 else
 bif (eqI x.2.1.2.1 5) then
 (Z4p (x.2.1,r16.2.1,r16.2.2.1,r16.2.2.2.1,r16.2.2.2.2.1,r16.2.2.2.2.2.1,r16.2.2.2.2.2.2)).bind fun r17 =>
 some (r17.1,r17.2.1,r17.2.2.1,r17.2.2.2.1,r17.2.2.2.2.1,r17.2.2.2.2.2.1,r17.2.2.2.2.2.2)
 else
 bif (eqI x.2.1.2.1 6) then
 (Z4r (x.2.1,r16.2.1,r16.2.2.1,r16.2.2.2.1,r16.2.2.2.2.1,r16.2.2.2.2.2.1,r16.2.2.2.2.2.2)).bind fun r17 =>
 some (r17.1,r17.2.1,r17.2.2.1,r17.2.2.2.1,r17.2.2.2.2.1,r17.2.2.2.2.2.1,r17.2.2.2.2.2.2)
 else
 bif (eqI x.2.1.2.1 7) then
 (Z4t (x.2.1,r16.2.1,r16.2.2.1,r16.2.2.2.1,r16.2.2.2.2.1,r16.2.2.2.2.2.1,r16.2.2.2.2.2.2)).bind fun r17 =>
 some (r17.1,r17.2.1,r17.2.2.1,r17.2.2.2.1,r17.2.2.2.2.1,r17.2.2.2.2.2.1,r17.2.2.2.2.2.2)
 else
 bif q then
 (Z4v (x.2.1,r16.2.1,r16.2.2.1,r16.2.2.2.1,r16.2.2.2.2.1,r16.2.2.2.2.2.1,r16.2.2.2.2.2.2)).bind fun r17 =>
 some (r17.1,r17.2.1,r17.2.2.1,r17.2.2.2.1,r17.2.2.2.2.1,r17.2.2.2.2.2.1,r17.2.2.2.2.2.2)
 else
 bif s then
 (Z4x (x.2.1,r16.2.1,r16.2.2.1,r16.2.2.2.1,r16.2.2.2.2.1,r16.2.2.2.2.2.1,r16.2.2.2.2.2.2)).bind fun r17 =>
 some (r17.1,r17.2.1,r17.2.2.1,r17.2.2.2.1,r17.2.2.2.2.1,r17.2.2.2.2.2.1,r17.2.2.2.2.2.2)
 else
 bif u then
 (Z4z (x.2.1,r16.2.1,r16.2.2.1,r16.2.2.2.1,r16.2.2.2.2.1,r16.2.2.2.2.2.1,r16.2.2.2.2.2.2)).bind fun r17 =>
 some (r17.1,r17.2.1,r17.2.2.1,r17.2.2.2.1,r17.2.2.2.2.1,r17.2.2.2.2.2.1,r17.2.2.2.2.2.2)
 else
 bif v then
 (Z4h (x.2.1,r16.2.1,r16.2.2.1,r16.2.2.2.1,r16.2.2.2.2.1,r16.2.2.2.2.2.1,r16.2.2.2.2.2.2)).bind fun r17 =>
 some (r17.1,r17.2.1,r17.2.2.1,r17.2.2.2.1,r17.2.2.2.2.1,r17.2.2.2.2.2.1,r17.2.2.2.2.2.2)
 else
 some (true,r16.2.1,r16.2.2.1,r16.2.2.2.1,r16.2.2.2.2.1,r16.2.2.2.2.2.1,r16.2.2.2.2.2.2)
 else
 none
 else
 bif (inb x.2.1.1 8) then
 bif ((getAt 0 w.1 (toN x.2.1.1)) == 0) then
 some (false,p)
 else
 bif (Bool.not (x.2.1.2.1 == 5)) then
 bif (x.2.1.2.2.2.1 != 0) then
 some (false,p)
 else
 bif (x.2.1.2.1 != 1) then
 (Z49 (x.2.1.2.1,p)).bind fun r16 =>
 (Z3y (x.2.1.2.2.1,0,(IntKind.wrap .i64 (r16.1 - 1)))).bind fun r17 =>
 bif (Bool.not r17) then
 some (false,r16.2.1,r16.2.2.1,r16.2.2.2.1,r16.2.2.2.2.1,r16.2.2.2.2.2.1,r16.2.2.2.2.2.2)
 else
 (Z40 (x.1,x.2.1,r16.2.1,r16.2.2.1,r16.2.2.2.1,r16.2.2.2.2.1,r16.2.2.2.2.2.1,r16.2.2.2.2.2.2)).bind fun r18 =>
 bif (Bool.not r18.1) then
 some (false,r18.2.1,r18.2.2.1,r18.2.2.2.1,r18.2.2.2.2.1,r18.2.2.2.2.2.1,r18.2.2.2.2.2.2)
 else
 bif (eqI x.2.1.2.1 1) then
 (Z4k (x.2.1,r18.2.1,r18.2.2.1,r18.2.2.2.1,r18.2.2.2.2.1,r18.2.2.2.2.2.1,r18.2.2.2.2.2.2)).bind fun r19 =>
 some (r19.1,r18.2.1,r18.2.2.1,r18.2.2.2.1,r18.2.2.2.2.1,r18.2.2.2.2.2.1,r18.2.2.2.2.2.2)
 else
 bif (eqI x.2.1.2.1 3) then
 (Z4n (x.2.1,r18.2.1,r18.2.2.1,r18.2.2.2.1,r18.2.2.2.2.1,r18.2.2.2.2.2.1,r18.2.2.2.2.2.2)).bind fun r19 =>
 some (r19.1,r19.2.1,r19.2.2.1,r19.2.2.2.1,r19.2.2.2.2.1,r19.2.2.2.2.2.1,r19.2.2.2.2.2.2)
 else
 bif (eqI x.2.1.2.1 5) then
 (Z4p (x.2.1,r18.2.1,r18.2.2.1,r18.2.2.2.1,r18.2.2.2.2.1,r18.2.2.2.2.2.1,r18.2.2.2.2.2.2)).bind fun r19 =>
 some (r19.1,r19.2.1,r19.2.2.1,r19.2.2.2.1,r19.2.2.2.2.1,r19.2.2.2.2.2.1,r19.2.2.2.2.2.2)
 else
 bif (eqI x.2.1.2.1 6) then
 (Z4r (x.2.1,r18.2.1,r18.2.2.1,r18.2.2.2.1,r18.2.2.2.2.1,r18.2.2.2.2.2.1,r18.2.2.2.2.2.2)).bind fun r19 =>
 some (r19.1,r19.2.1,r19.2.2.1,r19.2.2.2.1,r19.2.2.2.2.1,r19.2.2.2.2.2.1,r19.2.2.2.2.2.2)
 else
 bif (eqI x.2.1.2.1 7) then
 (Z4t (x.2.1,r18.2.1,r18.2.2.1,r18.2.2.2.1,r18.2.2.2.2.1,r18.2.2.2.2.2.1,r18.2.2.2.2.2.2)).bind fun r19 =>
 some (r19.1,r19.2.1,r19.2.2.1,r19.2.2.2.1,r19.2.2.2.2.1,r19.2.2.2.2.2.1,r19.2.2.2.2.2.2)
 else
 bif q then
 (Z4v (x.2.1,r18.2.1,r18.2.2.1,r18.2.2.2.1,r18.2.2.2.2.1,r18.2.2.2.2.2.1,r18.2.2.2.2.2.2)).bind fun r19 =>
 some (r19.1,r19.2.1,r19.2.2.1,r19.2.2.2.1,r19.2.2.2.2.1,r19.2.2.2.2.2.1,r19.2.2.2.2.2.2)
 else
 bif s then
 (Z4x (x.2.1,r18.2.1,r18.2.2.1,r18.2.2.2.1,r18.2.2.2.2.1,r18.2.2.2.2.2.1,r18.2.2.2.2.2.2)).bind fun r19 =>
 some (r19.1,r19.2.1,r19.2.2.1,r19.2.2.2.1,r19.2.2.2.2.1,r19.2.2.2.2.2.1,r19.2.2.2.2.2.2)
 else
 bif u then
 (Z4z (x.2.1,r18.2.1,r18.2.2.1,r18.2.2.2.1,r18.2.2.2.2.1,r18.2.2.2.2.2.1,r18.2.2.2.2.2.2)).bind fun r19 =>
 some (r19.1,r19.2.1,r19.2.2.1,r19.2.2.2.1,r19.2.2.2.2.1,r19.2.2.2.2.2.1,r19.2.2.2.2.2.2)
 else
 bif v then
 (Z4h (x.2.1,r18.2.1,r18.2.2.1,r18.2.2.2.1,r18.2.2.2.2.1,r18.2.2.2.2.2.1,r18.2.2.2.2.2.2)).bind fun r19 =>
 some (r19.1,r19.2.1,r19.2.2.1,r19.2.2.2.1,r19.2.2.2.2.1,r19.2.2.2.2.2.1,r19.2.2.2.2.2.2)
 else
 some (true,r18.2.1,r18.2.2.1,r18.2.2.2.1,r18.2.2.2.2.1,r18.2.2.2.2.2.1,r18.2.2.2.2.2.2)
 else
 (Z40 (x.1,x.2.1,p)).bind fun r16 =>
 bif (Bool.not r16.1) then
 some (false,r16.2.1,r16.2.2.1,r16.2.2.2.1,r16.2.2.2.2.1,r16.2.2.2.2.2.1,r16.2.2.2.2.2.2)
 else
 bif (eqI x.2.1.2.1 1) then
 (Z4k (x.2.1,r16.2.1,r16.2.2.1,r16.2.2.2.1,r16.2.2.2.2.1,r16.2.2.2.2.2.1,r16.2.2.2.2.2.2)).bind fun r17 =>
 some (r17.1,r16.2.1,r16.2.2.1,r16.2.2.2.1,r16.2.2.2.2.1,r16.2.2.2.2.2.1,r16.2.2.2.2.2.2)
 else
 bif (eqI x.2.1.2.1 3) then
 (Z4n (x.2.1,r16.2.1,r16.2.2.1,r16.2.2.2.1,r16.2.2.2.2.1,r16.2.2.2.2.2.1,r16.2.2.2.2.2.2)).bind fun r17 =>
 some (r17.1,r17.2.1,r17.2.2.1,r17.2.2.2.1,r17.2.2.2.2.1,r17.2.2.2.2.2.1,r17.2.2.2.2.2.2)
 else
 bif (eqI x.2.1.2.1 5) then
 (Z4p (x.2.1,r16.2.1,r16.2.2.1,r16.2.2.2.1,r16.2.2.2.2.1,r16.2.2.2.2.2.1,r16.2.2.2.2.2.2)).bind fun r17 =>
 some (r17.1,r17.2.1,r17.2.2.1,r17.2.2.2.1,r17.2.2.2.2.1,r17.2.2.2.2.2.1,r17.2.2.2.2.2.2)
 else
 bif (eqI x.2.1.2.1 6) then
 (Z4r (x.2.1,r16.2.1,r16.2.2.1,r16.2.2.2.1,r16.2.2.2.2.1,r16.2.2.2.2.2.1,r16.2.2.2.2.2.2)).bind fun r17 =>
 some (r17.1,r17.2.1,r17.2.2.1,r17.2.2.2.1,r17.2.2.2.2.1,r17.2.2.2.2.2.1,r17.2.2.2.2.2.2)
 else
 bif (eqI x.2.1.2.1 7) then
 (Z4t (x.2.1,r16.2.1,r16.2.2.1,r16.2.2.2.1,r16.2.2.2.2.1,r16.2.2.2.2.2.1,r16.2.2.2.2.2.2)).bind fun r17 =>
 some (r17.1,r17.2.1,r17.2.2.1,r17.2.2.2.1,r17.2.2.2.2.1,r17.2.2.2.2.2.1,r17.2.2.2.2.2.2)
 else
 bif q then
 (Z4v (x.2.1,r16.2.1,r16.2.2.1,r16.2.2.2.1,r16.2.2.2.2.1,r16.2.2.2.2.2.1,r16.2.2.2.2.2.2)).bind fun r17 =>
 some (r17.1,r17.2.1,r17.2.2.1,r17.2.2.2.1,r17.2.2.2.2.1,r17.2.2.2.2.2.1,r17.2.2.2.2.2.2)
 else
 bif s then
 (Z4x (x.2.1,r16.2.1,r16.2.2.1,r16.2.2.2.1,r16.2.2.2.2.1,r16.2.2.2.2.2.1,r16.2.2.2.2.2.2)).bind fun r17 =>
 some (r17.1,r17.2.1,r17.2.2.1,r17.2.2.2.1,r17.2.2.2.2.1,r17.2.2.2.2.2.1,r17.2.2.2.2.2.2)
 else
 bif u then
 (Z4z (x.2.1,r16.2.1,r16.2.2.1,r16.2.2.2.1,r16.2.2.2.2.1,r16.2.2.2.2.2.1,r16.2.2.2.2.2.2)).bind fun r17 =>
 some (r17.1,r17.2.1,r17.2.2.1,r17.2.2.2.1,r17.2.2.2.2.1,r17.2.2.2.2.2.1,r17.2.2.2.2.2.2)
 else
 bif v then
 (Z4h (x.2.1,r16.2.1,r16.2.2.1,r16.2.2.2.1,r16.2.2.2.2.1,r16.2.2.2.2.2.1,r16.2.2.2.2.2.2)).bind fun r17 =>
 some (r17.1,r17.2.1,r17.2.2.1,r17.2.2.2.1,r17.2.2.2.2.1,r17.2.2.2.2.2.1,r17.2.2.2.2.2.2)
 else
 some (true,r16.2.1,r16.2.2.1,r16.2.2.2.1,r16.2.2.2.2.1,r16.2.2.2.2.2.1,r16.2.2.2.2.2.2)
 else
 bif (x.2.1.2.1 != 1) then
 (Z49 (x.2.1.2.1,p)).bind fun r16 =>
 (Z3y (x.2.1.2.2.1,0,(IntKind.wrap .i64 (r16.1 - 1)))).bind fun r17 =>
 bif (Bool.not r17) then
 some (false,r16.2.1,r16.2.2.1,r16.2.2.2.1,r16.2.2.2.2.1,r16.2.2.2.2.2.1,r16.2.2.2.2.2.2)
 else
 (Z40 (x.1,x.2.1,r16.2.1,r16.2.2.1,r16.2.2.2.1,r16.2.2.2.2.1,r16.2.2.2.2.2.1,r16.2.2.2.2.2.2)).bind fun r18 =>
 bif (Bool.not r18.1) then
 some (false,r18.2.1,r18.2.2.1,r18.2.2.2.1,r18.2.2.2.2.1,r18.2.2.2.2.2.1,r18.2.2.2.2.2.2)
 else
 bif (eqI x.2.1.2.1 1) then
 (Z4k (x.2.1,r18.2.1,r18.2.2.1,r18.2.2.2.1,r18.2.2.2.2.1,r18.2.2.2.2.2.1,r18.2.2.2.2.2.2)).bind fun r19 =>
 some (r19.1,r18.2.1,r18.2.2.1,r18.2.2.2.1,r18.2.2.2.2.1,r18.2.2.2.2.2.1,r18.2.2.2.2.2.2)
 else
 bif (eqI x.2.1.2.1 3) then
 (Z4n (x.2.1,r18.2.1,r18.2.2.1,r18.2.2.2.1,r18.2.2.2.2.1,r18.2.2.2.2.2.1,r18.2.2.2.2.2.2)).bind fun r19 =>
 some (r19.1,r19.2.1,r19.2.2.1,r19.2.2.2.1,r19.2.2.2.2.1,r19.2.2.2.2.2.1,r19.2.2.2.2.2.2)
 else
 bif (eqI x.2.1.2.1 5) then
 (Z4p (x.2.1,r18.2.1,r18.2.2.1,r18.2.2.2.1,r18.2.2.2.2.1,r18.2.2.2.2.2.1,r18.2.2.2.2.2.2)).bind fun r19 =>
 some (r19.1,r19.2.1,r19.2.2.1,r19.2.2.2.1,r19.2.2.2.2.1,r19.2.2.2.2.2.1,r19.2.2.2.2.2.2)
 else
 bif (eqI x.2.1.2.1 6) then
 (Z4r (x.2.1,r18.2.1,r18.2.2.1,r18.2.2.2.1,r18.2.2.2.2.1,r18.2.2.2.2.2.1,r18.2.2.2.2.2.2)).bind fun r19 =>
 some (r19.1,r19.2.1,r19.2.2.1,r19.2.2.2.1,r19.2.2.2.2.1,r19.2.2.2.2.2.1,r19.2.2.2.2.2.2)
 else
 bif (eqI x.2.1.2.1 7) then
 (Z4t (x.2.1,r18.2.1,r18.2.2.1,r18.2.2.2.1,r18.2.2.2.2.1,r18.2.2.2.2.2.1,r18.2.2.2.2.2.2)).bind fun r19 =>
 some (r19.1,r19.2.1,r19.2.2.1,r19.2.2.2.1,r19.2.2.2.2.1,r19.2.2.2.2.2.1,r19.2.2.2.2.2.2)
 else
 bif q then
 (Z4v (x.2.1,r18.2.1,r18.2.2.1,r18.2.2.2.1,r18.2.2.2.2.1,r18.2.2.2.2.2.1,r18.2.2.2.2.2.2)).bind fun r19 =>
 some (r19.1,r19.2.1,r19.2.2.1,r19.2.2.2.1,r19.2.2.2.2.1,r19.2.2.2.2.2.1,r19.2.2.2.2.2.2)
 else
 bif s then
 (Z4x (x.2.1,r18.2.1,r18.2.2.1,r18.2.2.2.1,r18.2.2.2.2.1,r18.2.2.2.2.2.1,r18.2.2.2.2.2.2)).bind fun r19 =>
 some (r19.1,r19.2.1,r19.2.2.1,r19.2.2.2.1,r19.2.2.2.2.1,r19.2.2.2.2.2.1,r19.2.2.2.2.2.2)
 else
 bif u then
 (Z4z (x.2.1,r18.2.1,r18.2.2.1,r18.2.2.2.1,r18.2.2.2.2.1,r18.2.2.2.2.2.1,r18.2.2.2.2.2.2)).bind fun r19 =>
 some (r19.1,r19.2.1,r19.2.2.1,r19.2.2.2.1,r19.2.2.2.2.1,r19.2.2.2.2.2.1,r19.2.2.2.2.2.2)
 else
 bif v then
 (Z4h (x.2.1,r18.2.1,r18.2.2.1,r18.2.2.2.1,r18.2.2.2.2.1,r18.2.2.2.2.2.1,r18.2.2.2.2.2.2)).bind fun r19 =>
 some (r19.1,r19.2.1,r19.2.2.1,r19.2.2.2.1,r19.2.2.2.2.1,r19.2.2.2.2.2.1,r19.2.2.2.2.2.2)
 else
 some (true,r18.2.1,r18.2.2.1,r18.2.2.2.1,r18.2.2.2.2.1,r18.2.2.2.2.2.1,r18.2.2.2.2.2.2)
 else
 (Z40 (x.1,x.2.1,p)).bind fun r16 =>
 bif (Bool.not r16.1) then
 some (false,r16.2.1,r16.2.2.1,r16.2.2.2.1,r16.2.2.2.2.1,r16.2.2.2.2.2.1,r16.2.2.2.2.2.2)
 else
 bif (eqI x.2.1.2.1 1) then
 (Z4k (x.2.1,r16.2.1,r16.2.2.1,r16.2.2.2.1,r16.2.2.2.2.1,r16.2.2.2.2.2.1,r16.2.2.2.2.2.2)).bind fun r17 =>
 some (r17.1,r16.2.1,r16.2.2.1,r16.2.2.2.1,r16.2.2.2.2.1,r16.2.2.2.2.2.1,r16.2.2.2.2.2.2)
 else
 bif (eqI x.2.1.2.1 3) then
 (Z4n (x.2.1,r16.2.1,r16.2.2.1,r16.2.2.2.1,r16.2.2.2.2.1,r16.2.2.2.2.2.1,r16.2.2.2.2.2.2)).bind fun r17 =>
 some (r17.1,r17.2.1,r17.2.2.1,r17.2.2.2.1,r17.2.2.2.2.1,r17.2.2.2.2.2.1,r17.2.2.2.2.2.2)
 else
 bif (eqI x.2.1.2.1 5) then
 (Z4p (x.2.1,r16.2.1,r16.2.2.1,r16.2.2.2.1,r16.2.2.2.2.1,r16.2.2.2.2.2.1,r16.2.2.2.2.2.2)).bind fun r17 =>
 some (r17.1,r17.2.1,r17.2.2.1,r17.2.2.2.1,r17.2.2.2.2.1,r17.2.2.2.2.2.1,r17.2.2.2.2.2.2)
 else
 bif (eqI x.2.1.2.1 6) then
 (Z4r (x.2.1,r16.2.1,r16.2.2.1,r16.2.2.2.1,r16.2.2.2.2.1,r16.2.2.2.2.2.1,r16.2.2.2.2.2.2)).bind fun r17 =>
 some (r17.1,r17.2.1,r17.2.2.1,r17.2.2.2.1,r17.2.2.2.2.1,r17.2.2.2.2.2.1,r17.2.2.2.2.2.2)
 else
 bif (eqI x.2.1.2.1 7) then
 (Z4t (x.2.1,r16.2.1,r16.2.2.1,r16.2.2.2.1,r16.2.2.2.2.1,r16.2.2.2.2.2.1,r16.2.2.2.2.2.2)).bind fun r17 =>
 some (r17.1,r17.2.1,r17.2.2.1,r17.2.2.2.1,r17.2.2.2.2.1,r17.2.2.2.2.2.1,r17.2.2.2.2.2.2)
 else
 bif q then
 (Z4v (x.2.1,r16.2.1,r16.2.2.1,r16.2.2.2.1,r16.2.2.2.2.1,r16.2.2.2.2.2.1,r16.2.2.2.2.2.2)).bind fun r17 =>
 some (r17.1,r17.2.1,r17.2.2.1,r17.2.2.2.1,r17.2.2.2.2.1,r17.2.2.2.2.2.1,r17.2.2.2.2.2.2)
 else
 bif s then
 (Z4x (x.2.1,r16.2.1,r16.2.2.1,r16.2.2.2.1,r16.2.2.2.2.1,r16.2.2.2.2.2.1,r16.2.2.2.2.2.2)).bind fun r17 =>
 some (r17.1,r17.2.1,r17.2.2.1,r17.2.2.2.1,r17.2.2.2.2.1,r17.2.2.2.2.2.1,r17.2.2.2.2.2.2)
 else
 bif u then
 (Z4z (x.2.1,r16.2.1,r16.2.2.1,r16.2.2.2.1,r16.2.2.2.2.1,r16.2.2.2.2.2.1,r16.2.2.2.2.2.2)).bind fun r17 =>
 some (r17.1,r17.2.1,r17.2.2.1,r17.2.2.2.1,r17.2.2.2.2.1,r17.2.2.2.2.2.1,r17.2.2.2.2.2.2)
 else
 bif v then
 (Z4h (x.2.1,r16.2.1,r16.2.2.1,r16.2.2.2.1,r16.2.2.2.2.1,r16.2.2.2.2.2.1,r16.2.2.2.2.2.2)).bind fun r17 =>
 some (r17.1,r17.2.1,r17.2.2.1,r17.2.2.2.1,r17.2.2.2.2.1,r17.2.2.2.2.2.1,r17.2.2.2.2.2.2)
 else
 some (true,r16.2.1,r16.2.2.1,r16.2.2.2.1,r16.2.2.2.2.1,r16.2.2.2.2.2.1,r16.2.2.2.2.2.2)
 else
 none
abbrev Zlo:=Spec.shp Zg1 Ziv Z4d
def Zb1:Ctx:=mC [(101,[],Zlh),(222,[],Spec.thin (Zlj)),(223,[],Spec.thin (Zlm)),(224,[],Spec.thin (Zli)),(156,[],Spec.shpR Zg5 Ziz Z4k),(157,[],Spec.thin (Zlt)),(159,[],Spec.thin (Zlu)),(160,[],Spec.thin (Zlv)),(161,[],Spec.thin (Zlw)),(162,[],Spec.thin (Zlx)),(163,[],Spec.thin (Zly)),(164,[],Spec.thin (Zlz)),(165,[],Spec.thin (Zlr))] [] 106 7
theorem Z4e:Sound Tryz.prog 166 (Zlo) :=
 tS Zb1 Tryz.f166 ⟨Z3z,Z43.thin,Z4a.thin,Z41.thin,Z4m,Z4o.thin,Z4q.thin,Z4s.thin,Z4u.thin,Z4w.thin,Z4y.thin,Z50.thin,Z4i.thin,trivial⟩
abbrev Zfx:Shape:=⟨sl_5,bl_0,ts_4,0⟩
abbrev Zir:Shape:=⟨sl_1,bl_0,ts_5,7⟩
def Z44 (x:T46):Option T30 :=
 let u:=x.2.2.2;
 (Z4d (x.1,x.2.1,x.2.2.1,u.1,u.2.1,u.2.2.1,u.2.2.2.1,u.2.2.2.2)).bind fun r12 =>
 let s:=r12.2.2;
 let q:=s.2.2;
 let p:=(List.set s.1 (toN x.2.1.1) (IntKind.wrap .i64 ((((List.length x.1):Nat):Int)+(1:Int))));
 bif (Bool.not r12.1) then
 some (false,r12.2.1,s.1,s.2.1,q.1,q.2.1,q.2.2)
 else
 bif (inb (natI (@mpos (Int × Int) (Int) (Ty.beq y6) (x.2.1.2.1,x.2.1.2.2.1) q.1)) (List.length (@mput (Int × Int) (Int) (Ty.beq y6) (x.2.1.2.1,x.2.1.2.2.1) (@mlook (Int × Int) (Int) (Ty.beq y6) (Ty.zero (.int .i64)) (x.2.1.2.1,x.2.1.2.2.1) q.1) q.1))) then
 bif (inb x.2.1.1 8) then
 bif (x.2.1.2.1 == 0) then
 some (true,r12.2.1,p,(IntKind.wrap .i64 (s.2.1+(1:Int))),(mset (@mput (Int × Int) (Int) (Ty.beq y6) (x.2.1.2.1,x.2.1.2.2.1) (@mlook (Int × Int) (Int) (Ty.beq y6) (Ty.zero (.int .i64)) (x.2.1.2.1,x.2.1.2.2.1) q.1) q.1) (toN (natI (@mpos (Int × Int) (Int) (Ty.beq y6) (x.2.1.2.1,x.2.1.2.2.1) q.1))) (IntKind.wrap .i64 ((@mlook (Int × Int) (Int) (Ty.beq y6) (Ty.zero (.int .i64)) (x.2.1.2.1,x.2.1.2.2.1) q.1)+(1:Int)))),q.2.1,q.2.2)
 else
 bif (x.2.1.2.1 == 13) then
 bif ((@mlook (Int) (Int) (Ty.beq (.int .i64)) (Ty.zero (.int .i64)) x.2.1.2.2.1 q.2.1) == (0:Int)) then
 some (true,r12.2.1,p,s.2.1,(mset (@mput (Int × Int) (Int) (Ty.beq y6) (x.2.1.2.1,x.2.1.2.2.1) (@mlook (Int × Int) (Int) (Ty.beq y6) (Ty.zero (.int .i64)) (x.2.1.2.1,x.2.1.2.2.1) q.1) q.1) (toN (natI (@mpos (Int × Int) (Int) (Ty.beq y6) (x.2.1.2.1,x.2.1.2.2.1) q.1))) (IntKind.wrap .i64 ((@mlook (Int × Int) (Int) (Ty.beq y6) (Ty.zero (.int .i64)) (x.2.1.2.1,x.2.1.2.2.1) q.1)+(1:Int)))),(@mput (Int) (Int) (Ty.beq (.int .i64)) x.2.1.2.2.1 (IntKind.wrap .i64 (x.2.1.1+(1:Int))) q.2.1),q.2.2)
 else
 some (true,r12.2.1,p,s.2.1,(mset (@mput (Int × Int) (Int) (Ty.beq y6) (x.2.1.2.1,x.2.1.2.2.1) (@mlook (Int × Int) (Int) (Ty.beq y6) (Ty.zero (.int .i64)) (x.2.1.2.1,x.2.1.2.2.1) q.1) q.1) (toN (natI (@mpos (Int × Int) (Int) (Ty.beq y6) (x.2.1.2.1,x.2.1.2.2.1) q.1))) (IntKind.wrap .i64 ((@mlook (Int × Int) (Int) (Ty.beq y6) (Ty.zero (.int .i64)) (x.2.1.2.1,x.2.1.2.2.1) q.1)+(1:Int)))),q.2.1,q.2.2)
 else
 some (true,r12.2.1,p,s.2.1,(mset (@mput (Int × Int) (Int) (Ty.beq y6) (x.2.1.2.1,x.2.1.2.2.1) (@mlook (Int × Int) (Int) (Ty.beq y6) (Ty.zero (.int .i64)) (x.2.1.2.1,x.2.1.2.2.1) q.1) q.1) (toN (natI (@mpos (Int × Int) (Int) (Ty.beq y6) (x.2.1.2.1,x.2.1.2.2.1) q.1))) (IntKind.wrap .i64 ((@mlook (Int × Int) (Int) (Ty.beq y6) (Ty.zero (.int .i64)) (x.2.1.2.1,x.2.1.2.2.1) q.1)+(1:Int)))),q.2.1,q.2.2)
 else
 none
 else
 none
abbrev Zlk:=Spec.shp Zfx Zir Z44
def Zax:Ctx:=mC [(166,[],Spec.thin (Zlo))] [] 64 7
theorem Z45:Sound Tryz.prog 104 (Zlk) :=
 tS Zax Tryz.f104 ⟨Z4e.thin,trivial⟩
abbrev Zds:Shape:=⟨[(1,(.hole y36)),(6,(.ptr 0 [])),(27,(.hole y36)),(28,(.hole (.int .i64))),(29,(.hole (.int .i64)))],bl_0,[y36,y36,(.int .i64),(.int .i64),y1,y2,(.int .i64),(.slice y8),(.slice y6),(.slice y6)],0⟩
abbrev Zcq:List (ETag × Shape):=[(.ret,⟨[(4,(.hole (.int .i64))),(5,(.hole (.int .i64)))],[],ts_8,0⟩),(.exit 0,⟨[],[],[],0⟩)]
def Z7o (x:(List (T20) × List (T20) × Int × Int × List Int × List Int × Int × List (T8) × List (Int × Int) × List (Int × Int))):Option ((List (T20) × List (T20) × Int × Int × List Int × List Int × Int × List (T8) × List (Int × Int) × List (Int × Int)) ⊕ ((Int × Int) ⊕ Unit)) :=
 let p:=x.2.2.2;
 let s:=p.2.2.2;
 bif (decide (p.1 < x.2.2.1)) then
 bif (inb p.1 (List.length x.2.1)) then
 bif (sub3 0 p.1 (List.length x.1)) then
 (Z44 ((cut x.1 (toN 0) ((toN p.1) - (toN 0))),(getAt (0,0,0,0,0) x.2.1 (toN p.1)),p.2.1,p.2.2.1,s.1,s.2.1,s.2.2.1,s.2.2.2)).bind fun r11 =>
 let q:=r11.2.2;
 bif (Bool.not r11.1) then
 some (.inr (.inl (p.1,0)))
 else
 some (.inl (x.1,x.2.1,x.2.2.1,(IntKind.wrap .i64 (p.1+1)),r11.2.1,q.1,q.2.1,q.2.2.1,q.2.2.2.1,q.2.2.2.2))
 else
 none
 else
 none
 else
 some (.inr (.inr ()))
def Zat:Ctx:=mC [(92,[100],Zl2),(102,[],Zm0),(103,[],Zlp),(104,[],Spec.thin (Zlk))] [] 43 0
theorem Z7p:CSound Tryz.prog ⟨43,0,true⟩ (.loop (loopOf 7 Tryz.f61)) (pieceSpec Zds Zcq (loop Z7o)) :=
 tL Zat 7 Tryz.f61 ⟨Z35,Z53,Z51,Z45.thin,trivial⟩
abbrev Zfs:Shape:=⟨sl_9,[],[y1,y36],0⟩
abbrev Zim:Shape:=⟨sl_10,[],ts_8,0⟩
def Z3u (x:T36):Option (Int × Int) :=
 bif (decide ((((List.length x.1):Nat):Int) > 4)) then
 some (0,1)
 else
 (Z34 x.1).bind fun r7 =>
 bif r7 then
 some (0,1)
 else
 (Z52 ()).bind fun r8 =>
 (Z4f (x.1,(0 :: (0 :: (0 :: (0 :: (0 :: (0 :: (0 :: (0 :: ([]:List Int))))))))),0,([]:List T8),([]:List (Int × Int)),r8)).bind fun r9 =>
 (loop Z7o (x.2,x.2,(((List.length x.2):Nat):Int),0,r9.1,r9.2.1,r9.2.2.1,r9.2.2.2.1,r9.2.2.2.2.1,r9.2.2.2.2.2)).bind fun r10 =>
 match r10 with
 | .inl y11 =>
 some (y11.1,y11.2)
 | .inr y11 =>
 some ((Int.negSucc 0),0)
abbrev Zlf:=Spec.shp Zfs Zim Z3u
def Zar:Ctx:=mC [(92,[100],Zl2),(102,[],Zm0),(103,[],Zlp),(104,[],Spec.thin (Zlk))] [(0,7,pieceSpec Zds Zcq (loop Z7o))] 43 0
theorem Z3x:Sound Tryz.prog 61 (Zlf) :=
 tS Zar Tryz.f61 ⟨Z35,Z53,Z51,Z45.thin,trivial⟩ ⟨(pL 7 Tryz.f61 Z7p),trivial⟩
abbrev Zcv:Shape:=⟨[(5,(.ptr 0 [])),(16,(.hole y36)),(17,(.hole (.int .i64))),(18,(.hole (.int .i64)))],bl_3,[y36,(.int .i64),(.int .i64),y1,y27,(.slice y6),(.slice y6),y15,(.slice y6)],0⟩
abbrev Zbt:List (ETag × Shape):=[(.exit 0,⟨[(5,(.ptr 0 []))],bl_3,ts_9,0⟩)]
def Z5u (x:(List (T20) × Int × Int × List Int × List (T21) × List (Int × Int) × List (Int × Int) × List T2 × List (Int × Int))):Option ((List (T20) × Int × Int × List Int × List (T21) × List (Int × Int) × List (Int × Int) × List T2 × List (Int × Int)) ⊕ (List Int × List (T21) × List (Int × Int) × List (Int × Int) × List T2 × List (Int × Int))) :=
 let s:=x.2.2;
 let u:=s.2.2;
 let q:=(u.2.1,u.2.2.1,u.2.2.2.1,u.2.2.2.2);
 let p:=(getAt ((0:Int),(0:Int),(0:Int),(0:Int),(0:Int)) x.1 (toN s.1));
 let v:=p.2.2;
 bif (decide (s.1 < x.2.1)) then
 bif (inb s.1 (List.length x.1)) then
 bif (p.2.1 == 3) then
 some (.inl (x.1,x.2.1,(IntKind.wrap .i64 (s.1+(1:Int))),s.2.1,(@mput (Int × T0) (Int) (Ty.beq y9) (v.1,v.2.1,(p.2.1 == (5:Int))) (IntKind.wrap .i64 (v.2.2+(1:Int))) u.1),q))
 else
 bif (p.2.1 == 5) then
 some (.inl (x.1,x.2.1,(IntKind.wrap .i64 (s.1+(1:Int))),s.2.1,(@mput (Int × T0) (Int) (Ty.beq y9) (v.1,v.2.1,(p.2.1 == (5:Int))) (IntKind.wrap .i64 (v.2.2+(1:Int))) u.1),q))
 else
 some (.inl (x.1,x.2.1,(IntKind.wrap .i64 (s.1+1)),s.2.1,u.1,q))
 else
 none
 else
 some (.inr (s.2.1,u.1,q))
def Z83:Ctx:=mC [] [] 47 0
theorem Z5v:CSound Tryz.prog ⟨47,0,true⟩ (.loop (loopOf 4 Tryz.f62)) (pieceSpec Zcv Zbt (loop Z5u)) :=
 tL Z83 4 Tryz.f62 trivial
abbrev Ze1:Shape:=⟨sl_9,[],[y1,y36],0⟩
abbrev Zgv:Shape:=⟨sl_4,bl_3,ts_9,0⟩
def Zc (x:T36):Option (List Int × List (T21) × List (Int × Int) × List (Int × Int) × List T2 × List (Int × Int)) :=
 (loop Z5u (x.2,(((List.length x.2):Nat):Int),0,x.1,([]:List T21),([]:List (Int × Int)),([]:List (Int × Int)),([]:List (Int × (List Int))),([]:List (Int × Int)))).bind fun r8 =>
 some (r8.1,r8.2.1,r8.2.2.1,r8.2.2.2.1,r8.2.2.2.2.1,r8.2.2.2.2.2)
abbrev Zjo:=Spec.shp Ze1 Zgv Zc
def Z82:Ctx:=mC [] [(0,4,pieceSpec Zcv Zbt (loop Z5u))] 47 0
theorem Zd:Sound Tryz.prog 62 (Zjo) :=
 tS Z82 Tryz.f62 trivial ⟨(pL 4 Tryz.f62 Z5v),trivial⟩
abbrev Zdz:Shape:=⟨sl_8,bl_3,ts_10,0⟩
abbrev Zgt:Shape:=⟨[(0,(.fn 105 .nil (.cons (.ptr 6 []) (.cons (.ptr 7 []) (.cons (.ptr 8 []) .nil)))))],[.var (.pr (.hole y1) (.pr (.mp 1) (.pr (.mp 2) (.pr (.mp 3) (.pr (.mp 4) (.mp 5)))))),.mp y9 (.int .i64),.mp (.int .i64) (.int .i64),.mp (.int .i64) (.int .i64),.mo (.int .i64) (.int .i64),.mp (.int .i64) (.int .i64),.var (.ptr 0 []),.var (.hole y31),.var (.hole (.int .i64))],[y1,y27,(.slice y6),(.slice y6),y15,(.slice y6),y31,(.int .i64)],6⟩
def Z8 (x:(Int × T20 × List Int × List (T21) × List (Int × Int) × List (Int × Int) × List T2 × List (Int × Int))):Option (List Int × List (T21) × List (Int × Int) × List (Int × Int) × List T2 × List (Int × Int) × T20 × Int) :=
 let p:=x.2.2.2;
 some (x.2.2.1,p.1,p.2.1,p.2.2.1,p.2.2.2.1,p.2.2.2.2,x.2.1,x.1)
abbrev Zjm:=Spec.shp Zdz Zgt Z8
def Z7z:Ctx:=mC [] [] 8 6
theorem Zb:Sound Tryz.prog 63 (Zjm) :=
 tS Z7z Tryz.f63 trivial
abbrev Zdw:Shape:=⟨[(12,(.ptr 0 [])),(40,(.hole (.int .i64)))],bl_4,ts_11,0⟩
abbrev Zgq:Shape:=⟨sl_2,bl_4,ts_11,1⟩
def Z2 (x:T2):Option T2 :=
 bif (fits ((List.length x.2)+(List.length (x.1 :: ([]:List Int))))) then
 some (0,(x.2++(x.1 :: ([]:List Int))))
 else
 none
def Z7w:Ctx:=mC [] [] 58 1 false
theorem Z3:YSound Tryz.prog 983052 [12] (Spec.rnd [12,40] Zdw Zgq Z2) :=
 YSound.rnd (C:=Z7w) (rt:=⟨rfPs (rfOf 12 Tryz.f15),rfAs (rfOf 12 Tryz.f15),rfBody (rfOf 12 Tryz.f15),58⟩) (by kernel_rfl) (ctxOK mixed tbl_ok rfl trivial) (SumOK.of trivial) (SumOK.of trivial) rfl rfl [12] Zdw Zgq rfl (by decide) (by decide) rfl (fun y=>⟨_,rfl⟩) (of_decide_eq_true (by kernel_rfl)) (of_decide_eq_true (by kernel_rfl)) Z2 (fun x=>by kernel_rfl)
abbrev Zcu:Shape:=⟨[(0,(.yl 0)),(3,(.ptr 3 [])),(70,(.sl 11)),(71,(.hole (.int .i64))),(72,(.hole (.int .i64)))],[.lp 983052 [12] (.cons (.ptr 4 []) .nil),.var (.ptr 5 []),.var (.hole y31),.var (.hole (.int .i64)),.var (.sl 12),.var (.pr (.hole y1) (.pr (.mp 6) (.pr (.mp 7) (.pr (.mp 8) (.pr (.mp 9) (.mp 10)))))),.mp y9 (.int .i64),.mp (.int .i64) (.int .i64),.mp (.int .i64) (.int .i64),.mo (.int .i64) (.int .i64),.mp (.int .i64) (.int .i64),.row (.int .i64),.row (.int .i64)],[(.int .i64),(.int .i64),y31,(.int .i64),y1,y27,(.slice y6),(.slice y6),y15,(.slice y6),y1,y1],11⟩
abbrev Zbs:List (ETag × Shape):=[(.ret,⟨[],bl_5,ts_12,11⟩),(.exit 1,⟨[],bl_6,ts_13,11⟩)]
def Z5s (x:(Int × Int × T20 × Int × List Int × List (T21) × List (Int × Int) × List (Int × Int) × List T2 × List (Int × Int) × List Int × List Int)):Option ((Int × Int × T20 × Int × List Int × List (T21) × List (Int × Int) × List (Int × Int) × List T2 × List (Int × Int) × List Int × List Int) ⊕ ((Int × T20 × Int × List Int × List (T21) × List (Int × Int) × List (Int × Int) × List T2 × List (Int × Int) × List Int) ⊕ (T20 × Int × List Int × List (T21) × List (Int × Int) × List (Int × Int) × List T2 × List (Int × Int) × List Int))) :=
 let a:=x.2.2;
 let u:=(IntKind.wrap .i64 (x.2.1+(1:Int)));
 let q:=a.2;
 let w:=q.2.2;
 let p:=w.2;
 let v:=p.2.2;
 let s:=v.2;
 bif (decide (x.2.1 < x.1)) then
 bif (inb x.2.1 (List.length s.2.1)) then
 bif (decide ((getAt 0 s.2.1 (toN x.2.1)) > 0)) then
 bif (decide ((getAt 0 s.2.1 (toN x.2.1)) <= q.1)) then
 (Z2 ((IntKind.wrap .i64 ((getAt 0 s.2.1 (toN x.2.1)) - 1)),s.2.2)).bind fun r12 =>
 bif (eqI r12.1 0) then
 some (.inl (x.1,u,a.1,q.1,q.2.1,w.1,p.1,p.2.1,v.1,s.1,s.2.1,r12.2))
 else
 some (.inr (.inl (r12.1,a.1,q.1,q.2.1,w.1,p.1,p.2.1,v.1,s.1,r12.2)))
 else
 some (.inl (x.1,u,a.1,q.1,q.2.1,w.1,p.1,p.2.1,v.1,s.1,s.2.1,s.2.2))
 else
 some (.inl (x.1,u,a.1,q.1,q.2.1,w.1,p.1,p.2.1,v.1,s.1,s.2.1,s.2.2))
 else
 none
 else
 some (.inr (.inr (a.1,q.1,q.2.1,w.1,p.1,p.2.1,v.1,s.1,s.2.2)))
def Z81:Ctx:=mC [] [] 91 11 true [(983052,[12],Spec.rnd [12,40] { sl:=[(12,(.ptr 0 [])),(40,(.hole (.int .i64)))],bl:=[.var (.sl 1),.row (.int .i64)],ts:=[(.int .i64),(.slice (.int .i64))],pin:=0 } { sl:=[(0,(.hole (.int .i64)))],bl:=[.var (.sl 1),.row (.int .i64)],ts:=[(.int .i64),(.slice (.int .i64))],pin:=1 } Z2)]
theorem Z5t:CSound Tryz.prog ⟨91,11,true⟩ (.loop (loopOf 15 Tryz.f105)) (pieceSpec Zcu Zbs (loop Z5s)) :=
 tL Z81 15 Tryz.f105 trivial trivial ⟨Z3,trivial⟩
abbrev Zdx:Shape:=⟨[(0,(.ptr 0 [])),(1,(.hole y31))],bl_3,[y31,y1,y27,(.slice y6),(.slice y6),y15,(.slice y6)],0⟩
abbrev Zgr:Shape:=⟨sl_2,bl_3,[(.int .i64),y1,y27,(.slice y6),(.slice y6),y15,(.slice y6)],6⟩
def Z4 (x:(T20 × List Int × List (T21) × List (Int × Int) × List (Int × Int) × List T2 × List (Int × Int))):Option (Int × List Int × List (T21) × List (Int × Int) × List (Int × Int) × List T2 × List (Int × Int)) :=
 let p:=x.2.2;
 let q:=p.2.2;
 bif (x.1.2.1 == 5) then
 some ((@mlook (Int × T0) (Int) (Ty.beq y9) (Ty.zero (.int .i64)) (x.1.2.2.1,x.1.2.2.2.1,false) p.1),x.2.1,p.1,p.2.1,q.1,q.2.1,q.2.2)
 else
 bif (inb x.1.2.2.1 (List.length x.2.1)) then
 some ((@mlook (Int × T0) (Int) (Ty.beq y9) (Ty.zero (.int .i64)) (x.1.2.2.1,(IntKind.wrap .i64 (x.1.2.2.2.1 - (getAt (0:Int) x.2.1 (toN x.1.2.2.1)))),true) p.1),x.2.1,p.1,p.2.1,q.1,q.2.1,q.2.2)
 else
 none
abbrev Zjk:=Spec.shp Zdx Zgr Z4
def Z7x:Ctx:=mC [] [] 37 6
theorem Z5:Sound Tryz.prog 106 (Zjk) :=
 tS Z7x Tryz.f106 trivial
abbrev Ze0:Shape:=⟨[(0,(.yl 0)),(1,(.ptr 1 [])),(2,(.ptr 2 [])),(3,(.ptr 3 []))],bl_6,ts_13,0⟩
abbrev Zgu:Shape:=⟨[],bl_5,ts_12,11⟩
def Z9 (x:(T20 × Int × List Int × List (T21) × List (Int × Int) × List (Int × Int) × List T2 × List (Int × Int) × List Int)):Option (Int × T20 × Int × List Int × List (T21) × List (Int × Int) × List (Int × Int) × List T2 × List (Int × Int) × List Int) :=
 let v:=x.2.2;
 let q:=v.2.2;
 let u:=q.2.2;
 let w:=u.2.2;
 let s:=(@mlook (Int) (List Int) (Ty.beq (.int .i64)) [] x.1.2.2.1 u.1);
 let p:=((@mlook (Int) (Int) (Ty.beq (.int .i64)) (Ty.zero (.int .i64)) x.1.1 u.2.1) :: ([]:List Int));
 bif (x.1.2.1 == 0) then
 (loop Z5s ((((List.length (p++((IntKind.wrap .i64 (x.1.2.2.2.2+1)) :: ([]:List Int)))):Nat):Int),0,x.1,x.2.1,v.1,v.2.1,q.1,q.2.1,u.1,u.2.1,(p++((IntKind.wrap .i64 (x.1.2.2.2.2+1)) :: ([]:List Int))),w)).bind fun r11 =>
 match r11 with
 | .inl y12 =>
 some (y12.1,y12.2.1,y12.2.2.1,y12.2.2.2.1,y12.2.2.2.2.1,y12.2.2.2.2.2.1,y12.2.2.2.2.2.2.1,y12.2.2.2.2.2.2.2.1,y12.2.2.2.2.2.2.2.2.1,y12.2.2.2.2.2.2.2.2.2)
 | .inr y12 =>
 some (0,y12.1,y12.2.1,y12.2.2.1,y12.2.2.2.1,y12.2.2.2.2.1,y12.2.2.2.2.2.1,y12.2.2.2.2.2.2.1,y12.2.2.2.2.2.2.2.1,y12.2.2.2.2.2.2.2.2)
 else
 bif (x.1.2.1 == 5) then
 (Z4 (x.1,v.1,v.2.1,q.1,q.2.1,u.1,u.2.1)).bind fun r11 =>
 (loop Z5s ((((List.length (p++(r11.1 :: ([]:List Int)))):Nat):Int),0,x.1,x.2.1,r11.2.1,r11.2.2.1,r11.2.2.2.1,r11.2.2.2.2.1,r11.2.2.2.2.2.1,r11.2.2.2.2.2.2,(p++(r11.1 :: ([]:List Int))),w)).bind fun r12 =>
 match r12 with
 | .inl y13 =>
 some (y13.1,y13.2.1,y13.2.2.1,y13.2.2.2.1,y13.2.2.2.2.1,y13.2.2.2.2.2.1,y13.2.2.2.2.2.2.1,y13.2.2.2.2.2.2.2.1,y13.2.2.2.2.2.2.2.2.1,y13.2.2.2.2.2.2.2.2.2)
 | .inr y13 =>
 some (0,y13.1,y13.2.1,y13.2.2.1,y13.2.2.2.1,y13.2.2.2.2.1,y13.2.2.2.2.2.1,y13.2.2.2.2.2.2.1,y13.2.2.2.2.2.2.2.1,y13.2.2.2.2.2.2.2.2)
 else
 bif (x.1.2.1 == 3) then
 (Z4 (x.1,v.1,v.2.1,q.1,q.2.1,u.1,u.2.1)).bind fun r11 =>
 (loop Z5s ((((List.length (p++(r11.1 :: ([]:List Int)))):Nat):Int),0,x.1,x.2.1,r11.2.1,r11.2.2.1,r11.2.2.2.1,r11.2.2.2.2.1,r11.2.2.2.2.2.1,r11.2.2.2.2.2.2,(p++(r11.1 :: ([]:List Int))),w)).bind fun r12 =>
 match r12 with
 | .inl y13 =>
 some (y13.1,y13.2.1,y13.2.2.1,y13.2.2.2.1,y13.2.2.2.2.1,y13.2.2.2.2.2.1,y13.2.2.2.2.2.2.1,y13.2.2.2.2.2.2.2.1,y13.2.2.2.2.2.2.2.2.1,y13.2.2.2.2.2.2.2.2.2)
 | .inr y13 =>
 some (0,y13.1,y13.2.1,y13.2.2.1,y13.2.2.2.1,y13.2.2.2.2.1,y13.2.2.2.2.2.1,y13.2.2.2.2.2.2.1,y13.2.2.2.2.2.2.2.1,y13.2.2.2.2.2.2.2.2)
 else
 bif (x.1.2.1 == 6) then
 (loop Z5s ((((List.length (p++((@mlook (Int) (Int) (Ty.beq (.int .i64)) (Ty.zero (.int .i64)) x.1.2.2.1 q.1) :: ([]:List Int)))):Nat):Int),(0:Int),x.1,x.2.1,v.1,v.2.1,q.1,q.2.1,u.1,u.2.1,(p++((@mlook (Int) (Int) (Ty.beq (.int .i64)) (Ty.zero (.int .i64)) x.1.2.2.1 q.1) :: ([]:List Int))),w)).bind fun r11 =>
 match r11 with
 | .inl y12 =>
 some (y12.1,y12.2.1,y12.2.2.1,y12.2.2.2.1,y12.2.2.2.2.1,y12.2.2.2.2.2.1,y12.2.2.2.2.2.2.1,y12.2.2.2.2.2.2.2.1,y12.2.2.2.2.2.2.2.2.1,y12.2.2.2.2.2.2.2.2.2)
 | .inr y12 =>
 some (0,y12.1,y12.2.1,y12.2.2.1,y12.2.2.2.1,y12.2.2.2.2.1,y12.2.2.2.2.2.1,y12.2.2.2.2.2.2.1,y12.2.2.2.2.2.2.2.1,y12.2.2.2.2.2.2.2.2)
 else
 bif (x.1.2.1 == 11) then
 bif (@mhas (Int) (List Int) (Ty.beq (.int .i64)) x.1.2.2.1 u.1) then
 bif (fits ((List.length p)+(List.length s))) then
 (loop Z5s ((((List.length (p++s)):Nat):Int),(0:Int),x.1,x.2.1,v.1,v.2.1,q.1,q.2.1,(mset u.1 (@mpos (Int) (List Int) (Ty.beq (.int .i64)) x.1.2.2.1 u.1) s),u.2.1,(p++s),w)).bind fun r11 =>
 match r11 with
 | .inl y12 =>
 some (y12.1,y12.2.1,y12.2.2.1,y12.2.2.2.1,y12.2.2.2.2.1,y12.2.2.2.2.2.1,y12.2.2.2.2.2.2.1,y12.2.2.2.2.2.2.2.1,y12.2.2.2.2.2.2.2.2.1,y12.2.2.2.2.2.2.2.2.2)
 | .inr y12 =>
 some (0,y12.1,y12.2.1,y12.2.2.1,y12.2.2.2.1,y12.2.2.2.2.1,y12.2.2.2.2.2.1,y12.2.2.2.2.2.2.1,y12.2.2.2.2.2.2.2.1,y12.2.2.2.2.2.2.2.2)
 else
 none
 else
 (loop Z5s ((((List.length (p++([]:List Int))):Nat):Int),0,x.1,x.2.1,v.1,v.2.1,q.1,q.2.1,u.1,u.2.1,(p++([]:List Int)),w)).bind fun r11 =>
 match r11 with
 | .inl y12 =>
 some (y12.1,y12.2.1,y12.2.2.1,y12.2.2.2.1,y12.2.2.2.2.1,y12.2.2.2.2.2.1,y12.2.2.2.2.2.2.1,y12.2.2.2.2.2.2.2.1,y12.2.2.2.2.2.2.2.2.1,y12.2.2.2.2.2.2.2.2.2)
 | .inr y12 =>
 some (0,y12.1,y12.2.1,y12.2.2.1,y12.2.2.2.1,y12.2.2.2.2.1,y12.2.2.2.2.2.1,y12.2.2.2.2.2.2.1,y12.2.2.2.2.2.2.2.1,y12.2.2.2.2.2.2.2.2)
 else
 bif (x.1.2.1 == 15) then
 (loop Z5s ((((List.length (p++((@mlook (Int) (Int) (Ty.beq (.int .i64)) (Ty.zero (.int .i64)) x.1.2.2.1 q.2.1) :: ([]:List Int)))):Nat):Int),(0:Int),x.1,x.2.1,v.1,v.2.1,q.1,q.2.1,u.1,u.2.1,(p++((@mlook (Int) (Int) (Ty.beq (.int .i64)) (Ty.zero (.int .i64)) x.1.2.2.1 q.2.1) :: ([]:List Int))),w)).bind fun r11 =>
 match r11 with
 | .inl y12 =>
 some (y12.1,y12.2.1,y12.2.2.1,y12.2.2.2.1,y12.2.2.2.2.1,y12.2.2.2.2.2.1,y12.2.2.2.2.2.2.1,y12.2.2.2.2.2.2.2.1,y12.2.2.2.2.2.2.2.2.1,y12.2.2.2.2.2.2.2.2.2)
 | .inr y12 =>
 some (0,y12.1,y12.2.1,y12.2.2.1,y12.2.2.2.1,y12.2.2.2.2.1,y12.2.2.2.2.2.1,y12.2.2.2.2.2.2.1,y12.2.2.2.2.2.2.2.1,y12.2.2.2.2.2.2.2.2)
 else
 (loop Z5s ((((List.length p):Nat):Int),0,x.1,x.2.1,v.1,v.2.1,q.1,q.2.1,u.1,u.2.1,p,w)).bind fun r11 =>
 match r11 with
 | .inl y12 =>
 some (y12.1,y12.2.1,y12.2.2.1,y12.2.2.2.1,y12.2.2.2.2.1,y12.2.2.2.2.2.1,y12.2.2.2.2.2.2.1,y12.2.2.2.2.2.2.2.1,y12.2.2.2.2.2.2.2.2.1,y12.2.2.2.2.2.2.2.2.2)
 | .inr y12 =>
 some (0,y12.1,y12.2.1,y12.2.2.1,y12.2.2.2.1,y12.2.2.2.2.1,y12.2.2.2.2.2.1,y12.2.2.2.2.2.2.1,y12.2.2.2.2.2.2.2.1,y12.2.2.2.2.2.2.2.2)
abbrev Zjn:=Spec.shp Ze0 Zgu Z9
def Z80:Ctx:=mC [(106,[],Zjk)] [(0,15,pieceSpec Zcu Zbs (loop Z5s))] 91 11 true [(983052,[12],Spec.rnd [12,40] Zdw Zgq Z2)]
theorem Za:Sound Tryz.prog 105 (Zjn) :=
 tS Z80 Tryz.f105 ⟨Z5,trivial⟩ ⟨(pL 15 Tryz.f105 Z5t),trivial⟩ ⟨Z3,trivial⟩
abbrev Zdy:Shape:=⟨sl_8,bl_3,ts_10,0⟩
abbrev Zgs:Shape:=⟨[],bl_3,ts_9,6⟩
def Z6 (x:(Int × T20 × List Int × List (T21) × List (Int × Int) × List (Int × Int) × List T2 × List (Int × Int))):Option (List Int × List (T21) × List (Int × Int) × List (Int × Int) × List T2 × List (Int × Int)) :=
 let v:=x.2.2;
 let s:=v.2.2;
 let u:=s.2.2;
 let q:=(IntKind.wrap .i64 (x.1+(1:Int)));
 let p:=(@mput (Int) (Int) (Ty.beq (.int .i64)) x.2.1.1 q u.2);
 bif (x.2.1.2.1 == 7) then
 some (v.1,v.2.1,(@mput (Int) (Int) (Ty.beq (.int .i64)) x.2.1.2.2.1 q s.1),s.2.1,u.1,p)
 else
 bif (x.2.1.2.1 == 14) then
 some (v.1,v.2.1,s.1,(@mput (Int) (Int) (Ty.beq (.int .i64)) x.2.1.2.2.1 q s.2.1),u.1,p)
 else
 bif (x.2.1.2.1 == 12) then
 bif (@mhas (Int) (List Int) (Ty.beq (.int .i64)) x.2.1.2.2.1 u.1) then
 bif (fits ((List.length (@mlook (Int) (List Int) (Ty.beq (.int .i64)) [] x.2.1.2.2.1 u.1))+(List.length (q :: ([]:List Int))))) then
 bif (Nat.beq (@mpos (Int) (List Int) (Ty.beq (.int .i64)) x.2.1.2.2.1 u.1) (@mpos (Int) (List Int) (Ty.beq (.int .i64)) x.2.1.2.2.1 u.1)) then
 some (v.1,v.2.1,s.1,s.2.1,(@mput (Int) (List Int) (Ty.beq (.int .i64)) x.2.1.2.2.1 ((@mlook (Int) (List Int) (Ty.beq (.int .i64)) [] x.2.1.2.2.1 u.1)++(q :: ([]:List Int))) u.1),p)
 else
 none
 else
 none
 else
 some (v.1,v.2.1,s.1,s.2.1,(@mput (Int) (List Int) (Ty.beq (.int .i64)) x.2.1.2.2.1 (q :: ([]:List Int)) u.1),p)
 else
 some (v.1,v.2.1,s.1,s.2.1,u.1,p)
abbrev Zjl:=Spec.shp Zdy Zgs Z6
def Z7y:Ctx:=mC [] [] 55 6
theorem Z7:Sound Tryz.prog 66 (Zjl) :=
 tS Z7y Tryz.f66 trivial
abbrev Zct:Shape:=⟨[(8,(.ptr 0 [])),(9,(.sl 6)),(29,(.hole y36)),(30,(.hole (.int .i64))),(31,(.hole (.int .i64)))],[.var (.pr (.hole y1) (.pr (.mp 1) (.pr (.mp 2) (.pr (.mp 3) (.pr (.mp 4) (.mp 5)))))),.mp y9 (.int .i64),.mp (.int .i64) (.int .i64),.mp (.int .i64) (.int .i64),.mo (.int .i64) (.int .i64),.mp (.int .i64) (.int .i64),.row y1],[y36,(.int .i64),(.int .i64),y1,y27,(.slice y6),(.slice y6),y15,(.slice y6),(.slice y1)],0⟩
abbrev Zbr:List (ETag × Shape):=[(.ret,⟨[],[],[],0⟩),(.exit 0,⟨[(9,(.sl 0))],[.row y1],[(.slice y1)],0⟩)]
def Z5q (x:(List (T20) × Int × Int × List Int × List (T21) × List (Int × Int) × List (Int × Int) × List T2 × List (Int × Int) × List (List Int))):Option ((List (T20) × Int × Int × List Int × List (T21) × List (Int × Int) × List (Int × Int) × List T2 × List (Int × Int) × List (List Int)) ⊕ (Unit ⊕ (List (List Int)))) :=
 let s:=x.2.2;
 let u:=s.2.2.2.2;
 bif (decide (s.1 < x.2.1)) then
 bif (inb s.1 (List.length x.1)) then
 (Z8 (s.1,(getAt (0,0,0,0,0) x.1 (toN s.1)),s.2.1,s.2.2.1,s.2.2.2.1,u.1,u.2.1,u.2.2.1)).bind fun r9 =>
 let v:=r9.2.2.2;
 (Z9 (v.2.2.2.1,v.2.2.2.2,r9.1,r9.2.1,r9.2.2.1,v.1,v.2.1,v.2.2.1,([]:List Int))).bind fun r10 =>
 let q:=r10.2.2.2.2.2;
 let w:=q.2.2.2;
 let p:=(Yge w.2 (0:Nat) (List.length w.2));
 bif (eqI r10.1 0) then
 bif (fits (List.length w.2)) then
 bif (fits (List.length p)) then
 bif (fits ((List.length u.2.2.2)+(List.length ((Y4c p) :: ([]:List (List Int)))))) then
 (Z6 (s.1,(getAt (0,0,0,0,0) x.1 (toN s.1)),r10.2.2.2.1,r10.2.2.2.2.1,q.1,q.2.1,q.2.2.1,w.1)).bind fun r11 =>
 let a:=r11.2.2;
 some (.inl (x.1,x.2.1,(IntKind.wrap .i64 (s.1+1)),r11.1,r11.2.1,a.1,a.2.1,a.2.2.1,a.2.2.2,(u.2.2.2++((Y4c p) :: ([]:List (List Int))))))
 else
 none
 else
 none
 else
 none
 else
 bif (eqI r10.1 1) then
 some (.inr (.inl ()))
 else
 none
 else
 none
 else
 some (.inr (.inr u.2.2.2))
def Z7v:Ctx:=mC [(61,[],Zlf),(62,[],Zjo),(63,[],Zjm),(64,[2000000],Ygg),(65,[2000000],Y4f),(66,[],Zjl)] [(3,12,Ydk (rfF (rfOf 12 Tryz.f15)) 983052 [12] [] [(105,[1983052],Zjn)])] 58 0
theorem Z5r:CSound Tryz.prog ⟨58,0,true⟩ (.loop (loopOf 8 Tryz.f15)) (pieceSpec Zct Zbr (loop Z5q)) :=
 tL Z7v 8 Tryz.f15 ⟨Z3x,Zd,Zb,Y7,Y6,Z7,trivial⟩ ⟨(pR 12 Tryz.f15 (Ydm (c:=rfOf 12 Tryz.f15) rfl (by kernel_rfl) Za [12] [])),trivial⟩
abbrev Zdv:Shape:=⟨sl_9,[],[y1,y36],0⟩
abbrev Zgp:Shape:=⟨[(0,(.hole (.slice y1))),(1,(.hole (.int .i64)))],[],[(.slice y1),(.int .i64)],0⟩
def Z0 (x:T36):Option (List (List Int) × Int) :=
 (Z3u (x.1,x.2)).bind fun r6 =>
 bif (r6.2 != 0) then
 some (([]:List (List Int)),1)
 else
 bif (decide (r6.1 ≥ 0)) then
 some (([]:List (List Int)),1)
 else
 (Zc (x.1,x.2)).bind fun r7 =>
 (loop Z5q (x.2,(((List.length x.2):Nat):Int),0,r7.1,r7.2.1,r7.2.2.1,r7.2.2.2.1,r7.2.2.2.2.1,r7.2.2.2.2.2,([]:List (List Int)))).bind fun r8 =>
 match r8 with
 | .inl y9 =>
 none
 | .inr y9 =>
 some (y9,0)
abbrev Zjj:=Spec.shp Zdv Zgp Z0
def Z7u:Ctx:=mC [(61,[],Zlf),(62,[],Zjo),(63,[],Zjm),(64,[2000000],Ygg),(65,[2000000],Y4f),(66,[],Zjl)] [(3,12,Ydk (rfF (rfOf 12 Tryz.f15)) 983052 [12] [] [(105,[1983052],Zjn)]),(0,8,pieceSpec Zct Zbr (loop Z5q))] 58 0
theorem Z1:Sound Tryz.prog 15 (Zjj) :=
 tS Z7u Tryz.f15 ⟨Z3x,Zd,Zb,Y7,Y6,Z7,trivial⟩ ⟨(pR 12 Tryz.f15 (Ydm (c:=rfOf 12 Tryz.f15) rfl (by kernel_rfl) Za [12] [])),(pL 8 Tryz.f15 Z5r),trivial⟩
abbrev Zfq:Shape:=⟨[],[],[],0⟩
abbrev Zik:Shape:=⟨[(0,(.fn 109 .nil (.cons (.ptr 0 []) .nil)))],[.var .nl],[],0⟩
def Z3q (x:Unit):Option Unit :=
 some ()
abbrev Zld:=Spec.shp Zfq Zik Z3q
def Zap:Ctx:=mC [] [] 3 0
theorem Z3t:Sound Tryz.prog 67 (Zld) :=
 tS Zap Tryz.f67 trivial
abbrev Zgh:Shape:=⟨sl_2,[],ts_2,0⟩
abbrev Zjb:Shape:=⟨sl_1,[],ts_1,0⟩
def Z59 (x:(Int)):Option (Bool) :=
 bif (decide (x ≥ 0)) then
 some (decide (x <= 1099511627776))
 else
 some false
abbrev Zm4:=Spec.shp Zgh Zjb Z59
def Zbi:Ctx:=mC [] [] 9 0
theorem Z5a:Sound Tryz.prog 115 (Zm4) :=
 tS Zbi Tryz.f115 trivial
abbrev Zgk:Shape:=⟨[(0,(.hole (.int .i64))),(1,(.ptr 0 []))],bl_7,ts_2,0⟩
abbrev Zje:Shape:=⟨sl_1,bl_7,ts_1,1⟩
def Z5f (x:(Int)):Option (Bool) :=
 (Z59 x).bind fun r21 =>
 some (Bool.not r21)
abbrev Zm7:=Spec.shp Zgk Zje Z5f
def Zbl:Ctx:=mC [(115,[],Zm4)] [] 8 1
theorem Z5g:Sound Tryz.prog 180 (Zm7) :=
 tS Zbl Tryz.f180 ⟨Z5a,trivial⟩
abbrev Zdm:Shape:=⟨[(0,(.hole y1)),(1,(.fn 180 .nil (.cons (.ptr 0 []) .nil))),(7,(.hole (.int .i64))),(8,(.hole (.int .i64)))],bl_7,ts_3,1⟩
abbrev Zck:List (ETag × Shape):=[(.ret,⟨sl_3,bl_7,ts_2,1⟩),(.exit 0,⟨[],bl_7,[],1⟩)]
def Z7c (x:T10):Option (T10 ⊕ ((Int) ⊕ Unit)) :=
 bif (decide (x.2.2 < x.2.1)) then
 bif (inb x.2.2 (List.length x.1)) then
 (Z5f (getAt 0 x.1 (toN x.2.2))).bind fun r20 =>
 bif r20 then
 some (.inr (.inl x.2.2))
 else
 some (.inl (x.1,x.2.1,(IntKind.wrap .i64 (x.2.2+1))))
 else
 none
 else
 some (.inr (.inr ()))
def Zaf:Ctx:=mC [(180,[],Spec.thin (Zm7))] [] 19 1
theorem Z7d:CSound Tryz.prog ⟨19,1,true⟩ (.loop (loopOf 3 Tryz.f126)) (pieceSpec Zdm Zck (loop Z7c)) :=
 tL Zaf 3 Tryz.f126 ⟨Z5g.thin,trivial⟩
abbrev Zfl:Shape:=⟨[(0,(.hole y1)),(1,(.fn 180 .nil (.cons (.ptr 0 []) .nil)))],bl_7,[y1],0⟩
abbrev Zif:Shape:=⟨sl_2,bl_7,ts_2,1⟩
def Z3g (x:(List Int)):Option (Int) :=
 (loop Z7c (x,(((List.length x):Nat):Int),0)).bind fun r19 =>
 match r19 with
 | .inl y20 =>
 some y20
 | .inr y20 =>
 some (Int.negSucc 0)
abbrev Zl8:=Spec.shp Zfl Zif Z3g
def Zae:Ctx:=mC [(180,[],Spec.thin (Zm7))] [(0,3,pieceSpec Zdm Zck (loop Z7c))] 19 1
theorem Z3h:Sound Tryz.prog 126 (Zl8) :=
 tS Zae Tryz.f126 ⟨Z5g.thin,trivial⟩ ⟨(pL 3 Tryz.f126 Z7d),trivial⟩
abbrev Zfg:Shape:=⟨[(0,(.hole y1)),(1,(.fn 180 .nil (.cons (.ptr 0 []) .nil)))],bl_7,[y1],0⟩
abbrev Zia:Shape:=⟨sl_1,bl_7,ts_1,1⟩
def Z36 (x:(List Int)):Option (Bool) :=
 (Z3g x).bind fun r18 =>
 some (decide (r18 ≥ 0))
abbrev Zl3:=Spec.shp Zfg Zia Z36
def Za7:Ctx:=mC [(126,[180],Spec.thin (Zl8))] [] 9 1
theorem Z37:Sound Tryz.prog 92 (Zl3) :=
 tS Za7 Tryz.f92 ⟨Z3h.thin,trivial⟩
abbrev Zgl:Shape:=⟨[(0,(.fn 115 .nil .nil)),(1,(.hole y1))],[],[y1],0⟩
abbrev Zjf:Shape:=⟨sl_1,[],ts_1,0⟩
def Z5i (x:(List Int)):Option (Bool) :=
 (Z36 x).bind fun r17 =>
 some (Bool.not r17)
abbrev Zm8:=Spec.shp Zgl Zjf Z5i
def Zbm:Ctx:=mC [(92,[180],Spec.thin (Zl3))] [] 9 0
theorem Z5j:Sound Tryz.prog 114 (Zm8) :=
 tS Zbm Tryz.f114 ⟨Z37.thin,trivial⟩
abbrev Zgg:Shape:=⟨sl_11,[],[y1],0⟩
abbrev Zja:Shape:=⟨sl_1,[],ts_1,0⟩
def Z58 (x:(List Int)):Option (Bool) :=
 bif (decide ((((List.length x):Nat):Int) <= 16)) then
 (Z5i x).bind fun r16 =>
 some r16
 else
 some false
abbrev Zm3:=Spec.shp Zgg Zja Z58
def Zbh:Ctx:=mC [(114,[115],Zm8)] [] 10 0
theorem Z5b:Sound Tryz.prog 70 (Zm3) :=
 tS Zbh Tryz.f70 ⟨Z5j,trivial⟩
abbrev Zgj:Shape:=⟨[(0,(.hole y1)),(1,(.ptr 0 []))],bl_8,[y1],0⟩
abbrev Zjd:Shape:=⟨sl_1,bl_8,ts_1,1⟩
def Z5e (x:(List Int)):Option (Bool) :=
 (Z58 x).bind fun r15 =>
 some (Bool.not r15)
abbrev Zm6:=Spec.shp Zgj Zjd Z5e
def Zbk:Ctx:=mC [(70,[],Zm3)] [] 8 1
theorem Z5h:Sound Tryz.prog 113 (Zm6) :=
 tS Zbk Tryz.f113 ⟨Z5b,trivial⟩
abbrev Zdk:Shape:=⟨[(0,(.hole (.slice y1))),(1,(.fn 113 .nil (.cons (.ptr 0 []) .nil))),(7,(.hole (.int .i64))),(8,(.hole (.int .i64)))],bl_8,[(.slice y1),(.int .i64),(.int .i64)],1⟩
abbrev Zci:List (ETag × Shape):=[(.ret,⟨sl_3,bl_8,ts_2,1⟩),(.exit 0,⟨[],bl_8,[],1⟩)]
def Z78 (x:(List (List Int) × Int × Int)):Option ((List (List Int) × Int × Int) ⊕ ((Int) ⊕ Unit)) :=
 bif (decide (x.2.2 < x.2.1)) then
 bif (inb x.2.2 (List.length x.1)) then
 (Z5e (getAt ([]:List Int) x.1 (toN x.2.2))).bind fun r14 =>
 bif r14 then
 some (.inr (.inl x.2.2))
 else
 some (.inl (x.1,x.2.1,(IntKind.wrap .i64 (x.2.2+1))))
 else
 none
 else
 some (.inr (.inr ()))
def Zab:Ctx:=mC [(113,[],Spec.thin (Zm6))] [] 19 1
theorem Z79:CSound Tryz.prog ⟨19,1,true⟩ (.loop (loopOf 3 Tryz.f179)) (pieceSpec Zdk Zci (loop Z78)) :=
 tL Zab 3 Tryz.f179 ⟨Z5h.thin,trivial⟩
abbrev Zfj:Shape:=⟨sl_12,bl_8,[(.slice y1)],0⟩
abbrev Zid:Shape:=⟨sl_2,bl_8,ts_2,1⟩
def Z3c (x:(List (List Int))):Option (Int) :=
 (loop Z78 (x,(((List.length x):Nat):Int),0)).bind fun r13 =>
 match r13 with
 | .inl y14 =>
 some y14
 | .inr y14 =>
 some (Int.negSucc 0)
abbrev Zl6:=Spec.shp Zfj Zid Z3c
def Zaa:Ctx:=mC [(113,[],Spec.thin (Zm6))] [(0,3,pieceSpec Zdk Zci (loop Z78))] 19 1
theorem Z3d:Sound Tryz.prog 179 (Zl6) :=
 tS Zaa Tryz.f179 ⟨Z5h.thin,trivial⟩ ⟨(pL 3 Tryz.f179 Z79),trivial⟩
abbrev Zfe:Shape:=⟨sl_12,bl_8,[(.slice y1)],0⟩
abbrev Zi8:Shape:=⟨sl_1,bl_8,ts_1,1⟩
def Z32 (x:(List (List Int))):Option (Bool) :=
 (Z3c x).bind fun r12 =>
 some (decide (r12 ≥ 0))
abbrev Zl1:=Spec.shp Zfe Zi8 Z32
def Za5:Ctx:=mC [(179,[113],Spec.thin (Zl6))] [] 9 1
theorem Z33:Sound Tryz.prog 112 (Zl1) :=
 tS Za5 Tryz.f112 ⟨Z3d.thin,trivial⟩
abbrev Zgm:Shape:=⟨[(0,(.fn 70 .nil .nil)),(1,(.hole (.slice y1)))],[],[(.slice y1)],0⟩
abbrev Zjg:Shape:=⟨sl_1,[],ts_1,0⟩
def Z5k (x:(List (List Int))):Option (Bool) :=
 (Z32 x).bind fun r11 =>
 some (Bool.not r11)
abbrev Zm9:=Spec.shp Zgm Zjg Z5k
def Zbn:Ctx:=mC [(112,[113],Spec.thin (Zl1))] [] 9 0
theorem Z5l:Sound Tryz.prog 69 (Zm9) :=
 tS Zbn Tryz.f69 ⟨Z33.thin,trivial⟩
abbrev Zgo:Shape:=⟨sl_11,[],[y1],0⟩
abbrev Zji:Shape:=⟨[(0,(.hole y3))],[],[y3],0⟩
def Z5o (x:(List Int)):Option (List Int) :=
 some (over (0 :: (0 :: (0 :: (0 :: (0 :: (0 :: (0 :: (0 :: (0 :: (0 :: (0 :: (0 :: (0 :: (0 :: (0 :: (0 :: ([]:List Int))))))))))))))))) x (0:Nat) (lenMin (@Ty.int Go.IntKind.i64) x 16))
abbrev Zmb:=Spec.shp Zgo Zji Z5o
def Zbq:Ctx:=mC [] [] 7 0
theorem Z5p:Sound Tryz.prog 71 (Zmb) :=
 tS Zbq Tryz.f71 trivial
abbrev Zdt:Shape:=⟨sl_13,[.var (.hole y3)],[y1,(.int .i64),(.int .i64),y3],0⟩
abbrev Zcr:List (ETag × Shape):=[(.exit 0,⟨[(6,(.ptr 0 []))],[.var (.hole y3)],[y3],0⟩)]
def Z7q (x:T14):Option (T14 ⊕ (List Int)) :=
 let p:=x.2.2;
 bif (decide (p.1 < x.2.1)) then
 bif (inb p.1 (List.length x.1)) then
 bif (inb p.1 16) then
 bif (inb p.1 16) then
 some (.inl (x.1,x.2.1,(IntKind.wrap .i64 (p.1+1)),(List.set p.2 (toN p.1) (Max.max (getAt 0 p.2 (toN p.1)) (getAt 0 x.1 (toN p.1))))))
 else
 none
 else
 none
 else
 none
 else
 some (.inr p.2)
def Zbg:Ctx:=mC [(69,[70,2000000],Zm9),(71,[],Zmb)] [] 33 0
theorem Z7r:CSound Tryz.prog ⟨33,0,true⟩ (.loop (loopOf 6 Tryz.f110)) (pieceSpec Zdt Zcr (loop Z7q)) :=
 tL Zbg 6 Tryz.f110 ⟨Z5l,Z5p,trivial⟩
abbrev Zdu:Shape:=⟨[(1,(.ptr 0 [])),(3,(.hole (.int .i64)))],[.var (.hole y3)],[(.int .i64),y3],0⟩
abbrev Zcs:List (ETag × Shape):=[(.exit 0,⟨[(1,(.ptr 0 [])),(3,(.hole (.int .i64)))],[.var (.hole y3)],[(.int .i64),y3],0⟩)]
def Z7s (x:T2):Option (T2 ⊕ T2) :=
 bif (decide (x.1 > 0)) then
 bif (inb (IntKind.wrap .i64 (x.1 - 1)) 16) then
 bif ((getAt 0 x.2 (toN (IntKind.wrap .i64 (x.1 - 1)))) == 0) then
 some (.inl ((IntKind.wrap .i64 (x.1 - 1)),x.2))
 else
 some (.inr (x.1,x.2))
 else
 none
 else
 some (.inr (x.1,x.2))
def Zbp:Ctx:=mC [] [] 18 0
theorem Z7t:CSound Tryz.prog ⟨18,0,true⟩ (.loop (loopOf 3 Tryz.f111)) (pieceSpec Zdu Zcs (loop Z7s)) :=
 tL Zbp 3 Tryz.f111 trivial
abbrev Zfd:Shape:=⟨sl_11,[],[y1],0⟩
abbrev Zi7:Shape:=⟨[(0,(.sl 0))],bl_9,[y1],0⟩
def Z30 (x:(List Int)):Option (List Int) :=
 bif (Nat.beq (List.length x) (0:Nat)) then
 amb (
 some ([]:List Int)) (
 bif (fits ((List.length ([]:List Int))+(List.length x))) then
 some (([]:List Int)++x)
 else
 none)
 else
 bif (fits ((List.length ([]:List Int))+(List.length x))) then
 some (([]:List Int)++x)
 else
 none
abbrev Zl0:=Spec.shp Zfd Zi7 Z30
def Za4:Ctx:=mC [] [] 8 0
theorem Z31:Sound Tryz.prog 178 (Zl0) :=
 tS Za4 Tryz.f178 trivial
abbrev Zgn:Shape:=⟨[(0,(.hole y3))],[],[y3],0⟩
abbrev Zjh:Shape:=⟨sl_11,[],[y1],0⟩
def Z5m (x:(List Int)):Option (List Int) :=
 (loop Z7s (16,x)).bind fun r14 =>
 bif (sub3 0 r14.1 (16:Nat)) then
 (Z30 (cut r14.2 (0:Nat) (toN r14.1))).bind fun r15 =>
 some r15
 else
 none
abbrev Zma:=Spec.shp Zgn Zjh Z5m
def Zbo:Ctx:=mC [(178,[],Zl0)] [(0,3,pieceSpec Zdu Zcs (loop Z7s))] 18 0
theorem Z5n:Sound Tryz.prog 111 (Zma) :=
 tS Zbo Tryz.f111 ⟨Z31,trivial⟩ ⟨(pL 3 Tryz.f111 Z7t),trivial⟩
abbrev Zgf:Shape:=⟨[(0,(.hole y1)),(1,(.hole y1))],[],[y1,y1],0⟩
abbrev Zj9:Shape:=⟨sl_14,[],ts_14,0⟩
def Z56 (x:T9):Option T3 :=
 (Z5k (x.1 :: (x.2 :: ([]:List (List Int))))).bind fun r10 =>
 bif (Bool.not r10) then
 some (([]:List Int),1)
 else
 (Z5o x.1).bind fun r11 =>
 (loop Z7q (x.2,(((List.length x.2):Nat):Int),0,r11)).bind fun r12 =>
 (Z5m r12).bind fun r13 =>
 some (r13,0)
abbrev Zm2:=Spec.shp Zgf Zj9 Z56
def Zbf:Ctx:=mC [(69,[70,2000000],Zm9),(71,[],Zmb),(111,[],Zma)] [(0,6,pieceSpec Zdt Zcr (loop Z7q))] 33 0
theorem Z57:Sound Tryz.prog 110 (Zm2) :=
 tS Zbf Tryz.f110 ⟨Z5l,Z5p,Z5n,trivial⟩ ⟨(pL 6 Tryz.f110 Z7r),trivial⟩
abbrev Zfr:Shape:=⟨[(0,(.hole y1)),(1,(.ptr 0 []))],[.var (.hole y1)],[y1,y1],0⟩
abbrev Zil:Shape:=⟨sl_11,[.var (.hole y1)],[y1,y1],1⟩
def Z3r (x:T9):Option T9 :=
 (Z56 (x.2,x.1)).bind fun r9 =>
 some (r9.1,r9.1)
abbrev Zle:=Spec.shp Zfr Zil Z3r
def Zaq:Ctx:=mC [(110,[],Zm2)] [] 11 1
theorem Z3s:Sound Tryz.prog 109 (Zle) :=
 tS Zaq Tryz.f109 ⟨Z57,trivial⟩
abbrev Zdq:Shape:=⟨[(6,(.hole (.slice y1))),(8,(.sl 2)),(10,(.ptr 0 [])),(11,(.fn 109 .nil (.cons (.ptr 1 []) .nil))),(12,(.hole y1)),(27,(.hole y36)),(28,(.hole (.int .i64))),(29,(.hole (.int .i64))),(40,(.hole y1)),(41,(.hole (.int .i64))),(42,(.hole (.int .i64)))],[.var (.hole y31),.var (.hole y1),.row y1],[(.slice y1),y1,y36,(.int .i64),(.int .i64),y1,(.int .i64),(.int .i64),y31,y1,(.slice y1)],0⟩
abbrev Zco:List (ETag × Shape):=[(.exit 2,⟨[(6,(.hole (.slice y1))),(8,(.sl 1)),(10,(.ptr 0 [])),(12,(.hole y1)),(27,(.hole y36)),(28,(.hole (.int .i64))),(29,(.hole (.int .i64)))],[.var (.hole y31),.row y1],[(.slice y1),y1,y36,(.int .i64),(.int .i64),y31,(.slice y1)],0⟩)]
def Z7k (x:(List (List Int) × List Int × List (T20) × Int × Int × List Int × Int × Int × T20 × List Int × List (List Int))):Option ((List (List Int) × List Int × List (T20) × Int × Int × List Int × Int × Int × T20 × List Int × List (List Int)) ⊕ (List (List Int) × List Int × List (T20) × Int × Int × T20 × List (List Int))) :=
 let s:=x.2.2;
 let p:=s.2.2.2;
 let q:=p.2.2;
 let u:=q.2.2.2;
 bif (decide (q.1 < p.2.1)) then
 bif (inb q.1 (List.length p.1)) then
 bif (inb (getAt 0 p.1 (toN q.1)) (List.length u)) then
 (Z3r ((getAt ([]:List Int) u (toN (getAt 0 p.1 (toN q.1)))),q.2.2.1)).bind fun r10 =>
 some (.inl (x.1,r10.1,s.1,s.2.1,s.2.2.1,p.1,p.2.1,(IntKind.wrap .i64 (q.1+1)),q.2.1,r10.2,u))
 else
 none
 else
 none
 else
 some (.inr (x.1,x.2.1,s.1,s.2.1,s.2.2.1,q.2.1,u))
def Zan:Ctx:=mC [(15,[],Zjj),(67,[],Zld),(109,[],Zle)] [] 71 0
theorem Z7l:CSound Tryz.prog ⟨71,0,true⟩ (.loop (loopOf 12 Tryz.f19)) (pieceSpec Zdq Zco (loop Z7k)) :=
 tL Zan 12 Tryz.f19 ⟨Z1,Z3t,Z3s,trivial⟩
abbrev Zge:Shape:=⟨sl_14,[],ts_14,0⟩
abbrev Zj8:Shape:=⟨sl_10,[],ts_8,0⟩
def Z54 (x:T3):Option (Int × Int) :=
 (Z58 x.1).bind fun r12 =>
 bif (Bool.not r12) then
 some (0,1)
 else
 bif (decide (x.2 < 0)) then
 some (0,3)
 else
 bif (decide (x.2 ≥ 16)) then
 some (0,3)
 else
 (Z5o x.1).bind fun r13 =>
 bif (inb x.2 (16:Nat)) then
 some ((getAt 0 r13 (toN x.2)),0)
 else
 none
abbrev Zm1:=Spec.shp Zge Zj8 Z54
def Zbe:Ctx:=mC [(70,[],Zm3),(71,[],Zmb)] [] 21 0
theorem Z55:Sound Tryz.prog 79 (Zm1) :=
 tS Zbe Tryz.f79 ⟨Z5b,Z5p,trivial⟩
abbrev Zgi:Shape:=⟨sl_14,[],ts_14,0⟩
abbrev Zjc:Shape:=⟨sl_14,[],ts_14,0⟩
def Z5c (x:T3):Option T3 :=
 (Z54 (x.1,x.2)).bind fun r11 =>
 bif (r11.2 != 0) then
 some (([]:List Int),r11.2)
 else
 bif (r11.1 == 1099511627776) then
 some (([]:List Int),8)
 else
 (Z5o x.1).bind fun r12 =>
 bif (inb x.2 16) then
 bif (inb x.2 16) then
 (Z5m (List.set r12 (toN x.2) (IntKind.wrap .i64 ((getAt 0 r12 (toN x.2))+1)))).bind fun r13 =>
 some (r13,0)
 else
 none
 else
 none
abbrev Zm5:=Spec.shp Zgi Zjc Z5c
def Zbj:Ctx:=mC [(79,[],Zm1),(71,[],Zmb),(111,[],Zma)] [] 31 0
theorem Z5d:Sound Tryz.prog 68 (Zm5) :=
 tS Zbj Tryz.f68 ⟨Z55,Z5p,Z5n,trivial⟩
abbrev Zdr:Shape:=⟨[(6,(.hole (.slice y1))),(8,(.sl 0)),(27,(.hole y36)),(28,(.hole (.int .i64))),(29,(.hole (.int .i64)))],[.row y1],[(.slice y1),y36,(.int .i64),(.int .i64),(.slice y1)],0⟩
abbrev Zcp:List (ETag × Shape):=[(.exit 0,⟨[(8,(.sl 0))],[.row y1],[(.slice y1)],0⟩)]
def Z7m (x:(List (List Int) × List (T20) × Int × Int × List (List Int))):Option ((List (List Int) × List (T20) × Int × Int × List (List Int)) ⊕ (List (List Int))) :=
 let q:=x.2.2.2;
 bif (decide (q.1 < x.2.2.1)) then
 bif (inb q.1 (List.length x.2.1)) then
 (Z3q ()).bind fun r7 =>
 (Z3r (([]:List Int),([]:List Int))).bind fun r8 =>
 bif (inb q.1 (List.length x.1)) then
 (loop Z7k (x.1,r8.1,x.2.1,x.2.2.1,q.1,(getAt ([]:List Int) x.1 (toN q.1)),(((List.length (getAt ([]:List Int) x.1 (toN q.1))):Nat):Int),0,(getAt (0,0,0,0,0) x.2.1 (toN q.1)),r8.2,q.2)).bind fun r9 =>
 let s:=r9.2.2.2;
 (Z5c (r9.2.1,s.2.2.1.1)).bind fun r10 =>
 let p:=(((List.length r10.1):Nat):Int);
 bif (Bool.and (sub3 0 p (List.length r10.1)) (sub3 p p (List.length r10.1))) then
 bif (fits ((List.length s.2.2.2)+(List.length ((cut r10.1 (toN 0) ((toN p) - (toN 0))) :: ([]:List (List Int)))))) then
 some (.inl (r9.1,r9.2.2.1,s.1,(IntKind.wrap .i64 (s.2.1+1)),(s.2.2.2++((cut r10.1 (toN 0) ((toN p) - (toN 0))) :: ([]:List (List Int))))))
 else
 none
 else
 none
 else
 none
 else
 none
 else
 some (.inr q.2)
def Zao:Ctx:=mC [(15,[],Zjj),(67,[],Zld),(109,[],Zle),(68,[],Zm5)] [(0,12,pieceSpec Zdq Zco (loop Z7k))] 71 0
theorem Z7n:CSound Tryz.prog ⟨71,0,true⟩ (.loop (loopOf 7 Tryz.f19)) (pieceSpec Zdr Zcp (loop Z7m)) :=
 tL Zao 7 Tryz.f19 ⟨Z1,Z3t,Z3s,Z5d,trivial⟩ ⟨(pL 12 Tryz.f19 Z7l),trivial⟩
abbrev Zfp:Shape:=⟨sl_9,[],[y1,y36],0⟩
abbrev Zij:Shape:=⟨[(0,(.hole (.slice y1))),(1,(.hole (.int .i64)))],[],[(.slice y1),(.int .i64)],0⟩
def Z3o (x:T36):Option (List (List Int) × Int) :=
 (Z0 (x.1,x.2)).bind fun r5 =>
 bif (r5.2 != 0) then
 some (([]:List (List Int)),r5.2)
 else
 bif (mkOK 0 (((List.length x.2):Nat):Int)) then
 (loop Z7m (r5.1,x.2,(((List.length x.2):Nat):Int),0,(List.replicate (toN 0) ([]:List Int)))).bind fun r6 =>
 some (r6,0)
 else
 none
abbrev Zlc:=Spec.shp Zfp Zij Z3o
def Zam:Ctx:=mC [(15,[],Zjj),(67,[],Zld),(109,[],Zle),(68,[],Zm5)] [(0,12,pieceSpec Zdq Zco (loop Z7k)),(0,7,pieceSpec Zdr Zcp (loop Z7m))] 71 0
theorem Z3p:Sound Tryz.prog 19 (Zlc) :=
 tS Zam Tryz.f19 ⟨Z1,Z3t,Z3s,Z5d,trivial⟩ ⟨(pL 12 Tryz.f19 Z7l),(pL 7 Tryz.f19 Z7n),trivial⟩
abbrev Ze3:Shape:=⟨sl_10,[],ts_8,0⟩
abbrev Zgx:Shape:=⟨sl_10,[],ts_8,0⟩
def Zg (x:(Int × Int)):Option (Int × Int) :=
 bif (decide (x.1 < 0)) then
 some (0,1)
 else
 bif (decide (x.1 > 1099511627776)) then
 some (0,1)
 else
 bif (decide (x.2 < 0)) then
 some (0,3)
 else
 bif (decide (x.2 > 15)) then
 some (0,3)
 else
 some ((intBits .i64 (shlI Go.IntKind.i64 x.1 4) x.2 (fun x y=>x ||| y)),0)
abbrev Zjq:=Spec.shp Ze3 Zgx Zg
def Z85:Ctx:=mC [] [] 24 0
theorem Zh:Sound Tryz.prog 34 (Zjq) :=
 tS Z85 Tryz.f34 trivial
abbrev Ze4:Shape:=⟨sl_2,[],ts_2,0⟩
abbrev Zgy:Shape:=⟨sl_0,[],ts_0,0⟩
def Zi (x:(Int)):Option T4 :=
 bif (decide (x < 0)) then
 some (0,0,1)
 else
 bif (decide (x > 17592186044431)) then
 some (0,0,1)
 else
 some ((shrI Go.IntKind.i64 x 4),(intBits .i64 x 15 (fun x y=>x &&& y)),0)
abbrev Zjr:=Spec.shp Ze4 Zgy Zi
def Z86:Ctx:=mC [] [] 15 0
theorem Zj:Sound Tryz.prog 78 (Zjr) :=
 tS Z86 Tryz.f78 trivial
abbrev Ze2:Shape:=⟨[(0,(.hole (.int .i64))),(1,(.hole y1))],[],ts_11,0⟩
abbrev Zgw:Shape:=⟨sl_15,[],ts_15,0⟩
def Ze (x:T2):Option T1 :=
 (Zi x.1).bind fun r8 =>
 bif (r8.2.2 != 0) then
 some (false,r8.2.2)
 else
 (Z54 (x.2,r8.2.1)).bind fun r9 =>
 bif (r9.2 == 0) then
 some ((decide (r8.1 <= r9.1)),r9.2)
 else
 some (false,r9.2)
abbrev Zjp:=Spec.shp Ze2 Zgw Ze
def Z84:Ctx:=mC [(78,[],Zjr),(79,[],Zm1)] [] 33 0
theorem Zf:Sound Tryz.prog 35 (Zjp) :=
 tS Z84 Tryz.f35 ⟨Zj,Z55,trivial⟩
abbrev Zcx:Shape:=⟨[(0,(.hole y1)),(5,(.hole y1)),(6,(.hole (.int .i64))),(7,(.hole (.int .i64)))],[],[y1,y1,(.int .i64),(.int .i64)],0⟩
abbrev Zbv:List (ETag × Shape):=[(.ret,⟨[(2,(.hole .bool))],[],ts_1,0⟩),(.exit 0,⟨sl_11,[],[y1],0⟩)]
def Z5y (x:T15):Option (T15 ⊕ ((Bool) ⊕ (List Int))) :=
 let p:=x.2.2;
 bif (decide (p.2 < p.1)) then
 bif (inb p.2 (List.length x.2.1)) then
 bif (decide ((getAt 0 x.2.1 (toN p.2)) < (Int.negSucc 0))) then
 some (.inr (.inl false))
 else
 bif (decide ((getAt 0 x.2.1 (toN p.2)) > 3)) then
 some (.inr (.inl false))
 else
 some (.inl (x.1,x.2.1,p.1,(IntKind.wrap .i64 (p.2+1))))
 else
 none
 else
 some (.inr (.inr x.1))
def Z8e:Ctx:=mC [] [] 21 0
theorem Z5z:CSound Tryz.prog ⟨21,0,true⟩ (.loop (loopOf 3 Tryz.f75)) (pieceSpec Zcx Zbv (loop Z5y)) :=
 tL Z8e 3 Tryz.f75 trivial
abbrev Ze9:Shape:=⟨sl_11,[],[y1],0⟩
abbrev Zh3:Shape:=⟨sl_1,[],ts_1,0⟩
def Zs (x:(List Int)):Option (Bool) :=
 (loop Z5y (x,x,(((List.length x):Nat):Int),0)).bind fun r8 =>
 match r8 with
 | .inl y9 =>
 some y9
 | .inr y9 =>
 some (decide ((((List.length y9):Nat):Int) <= 4))
abbrev Zjw:=Spec.shp Ze9 Zh3 Zs
def Z8d:Ctx:=mC [] [(0,3,pieceSpec Zcx Zbv (loop Z5y))] 21 0
theorem Zt:Sound Tryz.prog 75 (Zjw) :=
 tS Z8d Tryz.f75 trivial ⟨(pL 3 Tryz.f75 Z5z),trivial⟩
abbrev Zen:Shape:=⟨sl_19,[],[y36,(.int .i64)],0⟩
abbrev Zhh:Shape:=⟨sl_1,[],ts_1,0⟩
def Z1k (x:T32):Option (Bool) :=
 bif (inb x.2 (List.length x.1)) then
 bif (decide ((getAt (0,0,0,0,0) x.1 (toN x.2)).1 < 0)) then
 some true
 else
 bif (decide ((getAt (0,0,0,0,0) x.1 (toN x.2)).1 > 7)) then
 some true
 else
 bif (decide ((getAt (0,0,0,0,0) x.1 (toN x.2)).2.1 < 0)) then
 some true
 else
 bif (decide ((getAt (0,0,0,0,0) x.1 (toN x.2)).2.1 > 17)) then
 some true
 else
 bif (decide ((getAt (0,0,0,0,0) x.1 (toN x.2)).2.2.2.1 < 0)) then
 some true
 else
 bif (decide ((getAt (0,0,0,0,0) x.1 (toN x.2)).2.2.2.2 < (Int.negSucc 0))) then
 some true
 else
 some (decide ((getAt (0,0,0,0,0) x.1 (toN x.2)).2.2.2.2 ≥ x.2))
 else
 none
abbrev Zka:=Spec.shp Zen Zhh Z1k
def Z8x:Ctx:=mC [] [] 44 0
theorem Z1l:Sound Tryz.prog 181 (Zka) :=
 tS Z8x Tryz.f181 trivial
abbrev Zcz:Shape:=⟨[(0,(.hole y36)),(1,(.hole (.int .i64))),(5,(.hole (.int .i64))),(10,(.hole (.int .i64))),(11,(.hole (.int .i64)))],[],[y36,(.int .i64),(.int .i64),(.int .i64),(.int .i64)],0⟩
abbrev Zbx:List (ETag × Shape):=[(.exit 0,⟨[(5,(.hole (.int .i64)))],[],ts_2,0⟩)]
def Z62 (x:(List (T20) × Int × Int × Int × Int)):Option ((List (T20) × Int × Int × Int × Int) ⊕ (Int)) :=
 let p:=x.2.2.2;
 bif (decide (p.2 < p.1)) then
 bif (inb p.2 (List.length x.1)) then
 bif (inb x.2.1 (List.length x.1)) then
 bif ((getAt (0,0,0,0,0) x.1 (toN p.2)).1 == (getAt (0,0,0,0,0) x.1 (toN x.2.1)).1) then
 some (.inl (x.1,x.2.1,p.2,p.1,(IntKind.wrap .i64 (p.2+1))))
 else
 some (.inl (x.1,x.2.1,x.2.2.1,p.1,(IntKind.wrap .i64 (p.2+1))))
 else
 none
 else
 none
 else
 some (.inr x.2.2.1)
def Z8i:Ctx:=mC [] [] 28 0
theorem Z63:CSound Tryz.prog ⟨28,0,true⟩ (.loop (loopOf 4 Tryz.f187)) (pieceSpec Zcz Zbx (loop Z62)) :=
 tL Z8i 4 Tryz.f187 trivial
abbrev Zeb:Shape:=⟨sl_19,[],[y36,(.int .i64)],0⟩
abbrev Zh5:Shape:=⟨sl_2,[],ts_2,0⟩
def Zw (x:T32):Option (Int) :=
 bif (sub3 0 x.2 (List.length x.1)) then
 (loop Z62 (x.1,x.2,(Int.negSucc 0),(((List.length (cut x.1 (toN 0) ((toN x.2) - (toN 0)))):Nat):Int),0)).bind fun r14 =>
 some r14
 else
 none
abbrev Zjy:=Spec.shp Zeb Zh5 Zw
def Z8h:Ctx:=mC [] [(0,4,pieceSpec Zcz Zbx (loop Z62))] 28 0
theorem Zx:Sound Tryz.prog 187 (Zjy) :=
 tS Z8h Tryz.f187 trivial ⟨(pL 4 Tryz.f187 Z63),trivial⟩
abbrev Zeg:Shape:=⟨sl_19,[],[y36,(.int .i64)],0⟩
abbrev Zha:Shape:=⟨sl_1,[],ts_1,0⟩
def Z16 (x:T32):Option (Bool) :=
 bif (inb x.2 (List.length x.1)) then
 bif ((getAt (0,0,0,0,0) x.1 (toN x.2)).2.1 != 0) then
 (Zw (x.1,x.2)).bind fun r13 =>
 some (decide (r13 < 0))
 else
 (Zw (x.1,x.2)).bind fun r13 =>
 bif (decide (r13 ≥ 0)) then
 some true
 else
 bif ((getAt (0,0,0,0,0) x.1 (toN x.2)).2.2.1 != 0) then
 some true
 else
 bif ((getAt (0,0,0,0,0) x.1 (toN x.2)).2.2.2.1 != 0) then
 some true
 else
 bif ((getAt (0,0,0,0,0) x.1 (toN x.2)).1 == 0) then
 bif ((getAt (0,0,0,0,0) x.1 (toN x.2)).2.2.2.2 != (Int.negSucc 0)) then
 some true
 else
 bif (decide ((getAt (0,0,0,0,0) x.1 (toN x.2)).1 > 0)) then
 bif (decide ((getAt (0,0,0,0,0) x.1 (toN x.2)).2.2.2.2 < 0)) then
 some true
 else
 bif (inb (getAt (0,0,0,0,0) x.1 (toN x.2)).2.2.2.2 (List.length x.1)) then
 bif ((getAt (0,0,0,0,0) x.1 (toN (getAt (0,0,0,0,0) x.1 (toN x.2)).2.2.2.2)).2.1 != 1) then
 some true
 else
 bif (inb (getAt (0,0,0,0,0) x.1 (toN x.2)).2.2.2.2 (List.length x.1)) then
 some ((getAt (0,0,0,0,0) x.1 (toN (getAt (0,0,0,0,0) x.1 (toN x.2)).2.2.2.2)).2.2.1 != (getAt (0,0,0,0,0) x.1 (toN x.2)).1)
 else
 none
 else
 none
 else
 some false
 else
 bif (decide ((getAt (0,0,0,0,0) x.1 (toN x.2)).1 > 0)) then
 bif (decide ((getAt (0,0,0,0,0) x.1 (toN x.2)).2.2.2.2 < 0)) then
 some true
 else
 bif (inb (getAt (0,0,0,0,0) x.1 (toN x.2)).2.2.2.2 (List.length x.1)) then
 bif ((getAt (0,0,0,0,0) x.1 (toN (getAt (0,0,0,0,0) x.1 (toN x.2)).2.2.2.2)).2.1 != 1) then
 some true
 else
 bif (inb (getAt (0,0,0,0,0) x.1 (toN x.2)).2.2.2.2 (List.length x.1)) then
 some ((getAt (0,0,0,0,0) x.1 (toN (getAt (0,0,0,0,0) x.1 (toN x.2)).2.2.2.2)).2.2.1 != (getAt (0,0,0,0,0) x.1 (toN x.2)).1)
 else
 none
 else
 none
 else
 some false
 else
 none
abbrev Zk3:=Spec.shp Zeg Zha Z16
def Z8o:Ctx:=mC [(187,[],Zjy)] [] 69 0
theorem Z17:Sound Tryz.prog 182 (Zk3) :=
 tS Z8o Tryz.f182 ⟨Zx,trivial⟩
abbrev Zel:Shape:=⟨sl_2,[],ts_2,0⟩
abbrev Zhf:Shape:=⟨sl_1,[],ts_1,0⟩
def Z1g (x:(Int)):Option (Bool) :=
 bif (x == 3) then
 some true
 else
 some (x == 5)
abbrev Zk8:=Spec.shp Zel Zhf Z1g
def Z8v:Ctx:=mC [] [] 9 0
theorem Z1h:Sound Tryz.prog 231 (Zk8) :=
 tS Z8v Tryz.f231 trivial
abbrev Zef:Shape:=⟨sl_2,[],ts_2,0⟩
abbrev Zh9:Shape:=⟨sl_1,[],ts_1,0⟩
def Z14 (x:(Int)):Option (Bool) :=
 bif (x == 0) then
 some true
 else
 bif (x == 3) then
 some true
 else
 bif (x == 5) then
 some true
 else
 bif (x == 6) then
 some true
 else
 bif (x == 9) then
 some true
 else
 bif (x == 11) then
 some true
 else
 some (x == 15)
abbrev Zk2:=Spec.shp Zef Zh9 Z14
def Z8n:Ctx:=mC [] [] 29 0
theorem Z15:Sound Tryz.prog 232 (Zk2) :=
 tS Z8n Tryz.f232 trivial
abbrev Zd2:Shape:=⟨[(7,(.ptr 0 [])),(8,(.hole (.int .i64))),(40,(.hole y36)),(41,(.hole (.int .i64))),(42,(.hole (.int .i64)))],[.var (.hole y31)],[(.int .i64),y36,(.int .i64),(.int .i64),y31],0⟩
abbrev Zc0:List (ETag × Shape):=[(.exit 0,⟨[(7,(.ptr 0 [])),(8,(.hole (.int .i64)))],[.var (.hole y31)],[(.int .i64),y31],0⟩)]
def Z68 (x:(Int × List (T20) × Int × Int × T20)):Option ((Int × List (T20) × Int × Int × T20) ⊕ (Int × T20)) :=
 let p:=x.2.2.2;
 bif (decide (p.1 < x.2.2.1)) then
 bif (inb p.1 (List.length x.2.1)) then
 bif ((getAt (0,0,0,0,0) x.2.1 (toN p.1)).2.1 == 0) then
 some (.inl ((IntKind.wrap .i64 (x.1+1)),x.2.1,x.2.2.1,(IntKind.wrap .i64 (p.1+1)),p.2))
 else
 some (.inl (x.1,x.2.1,x.2.2.1,(IntKind.wrap .i64 (p.1+1)),p.2))
 else
 none
 else
 some (.inr (x.1,p.2))
def Z8t:Ctx:=mC [(231,[],Zk8),(232,[],Zk2)] [] 73 0
theorem Z69:CSound Tryz.prog ⟨73,0,true⟩ (.loop (loopOf 8 Tryz.f183)) (pieceSpec Zd2 Zc0 (loop Z68)) :=
 tL Z8t 8 Tryz.f183 ⟨Z1h,Z15,trivial⟩
abbrev Zek:Shape:=⟨sl_14,[],ts_14,0⟩
abbrev Zhe:Shape:=⟨sl_2,[],ts_2,0⟩
def Z1e (x:T3):Option (Int) :=
 bif (decide (x.2 ≥ 2)) then
 bif (decide (x.2 <= 7)) then
 some (((List.length x.1):Nat):Int)
 else
 bif (x.2 == 8) then
 some 4
 else
 bif (x.2 == 9) then
 some 4
 else
 bif (decide (x.2 ≥ 16)) then
 some 4
 else
 bif (decide (x.2 ≥ 10)) then
 bif (decide (x.2 <= 15)) then
 some 2
 else
 some 1
 else
 some 1
 else
 bif (x.2 == 8) then
 some 4
 else
 bif (x.2 == 9) then
 some 4
 else
 bif (decide (x.2 ≥ 16)) then
 some 4
 else
 bif (decide (x.2 ≥ 10)) then
 bif (decide (x.2 <= 15)) then
 some 2
 else
 some 1
 else
 some 1
abbrev Zk7:=Spec.shp Zek Zhe Z1e
def Z8u:Ctx:=mC [] [] 29 0
theorem Z1f:Sound Tryz.prog 233 (Zk7) :=
 tS Z8u Tryz.f233 trivial
abbrev Zej:Shape:=⟨sl_17,[],ts_17,0⟩
abbrev Zhd:Shape:=⟨sl_1,[],ts_1,0⟩
def Z1c (x:T38):Option (Bool) :=
 bif (inb x.2.2 (List.length x.2.1)) then
 (Z1g (getAt (0,0,0,0,0) x.2.1 (toN x.2.2)).2.1).bind fun r14 =>
 bif (Bool.not r14) then
 bif ((getAt (0,0,0,0,0) x.2.1 (toN x.2.2)).2.2.2.1 != 0) then
 some true
 else
 (Z14 (getAt (0,0,0,0,0) x.2.1 (toN x.2.2)).2.1).bind fun r15 =>
 bif (Bool.not r15) then
 bif ((getAt (0,0,0,0,0) x.2.1 (toN x.2.2)).2.2.2.2 != (Int.negSucc 0)) then
 some true
 else
 bif ((getAt (0,0,0,0,0) x.2.1 (toN x.2.2)).2.1 == 1) then
 bif (sub3 0 x.2.2 (List.length x.2.1)) then
 (loop Z68 (0,(cut x.2.1 (toN 0) ((toN x.2.2) - (toN 0))),(((List.length (cut x.2.1 (toN 0) ((toN x.2.2) - (toN 0)))):Nat):Int),0,(getAt (0,0,0,0,0) x.2.1 (toN x.2.2)))).bind fun r16 =>
 some (r16.2.2.2.1 != r16.1)
 else
 none
 else
 bif ((getAt (0,0,0,0,0) x.2.1 (toN x.2.2)).2.1 != 0) then
 bif (decide ((getAt (0,0,0,0,0) x.2.1 (toN x.2.2)).2.2.1 < 0)) then
 some true
 else
 (Z1e (x.1,(getAt (0,0,0,0,0) x.2.1 (toN x.2.2)).2.1)).bind fun r16 =>
 some (decide ((getAt (0,0,0,0,0) x.2.1 (toN x.2.2)).2.2.1 ≥ r16))
 else
 some false
 else
 bif ((getAt (0,0,0,0,0) x.2.1 (toN x.2.2)).2.1 == 1) then
 bif (sub3 0 x.2.2 (List.length x.2.1)) then
 (loop Z68 (0,(cut x.2.1 (toN 0) ((toN x.2.2) - (toN 0))),(((List.length (cut x.2.1 (toN 0) ((toN x.2.2) - (toN 0)))):Nat):Int),0,(getAt (0,0,0,0,0) x.2.1 (toN x.2.2)))).bind fun r16 =>
 some (r16.2.2.2.1 != r16.1)
 else
 none
 else
 bif ((getAt (0,0,0,0,0) x.2.1 (toN x.2.2)).2.1 != 0) then
 bif (decide ((getAt (0,0,0,0,0) x.2.1 (toN x.2.2)).2.2.1 < 0)) then
 some true
 else
 (Z1e (x.1,(getAt (0,0,0,0,0) x.2.1 (toN x.2.2)).2.1)).bind fun r16 =>
 some (decide ((getAt (0,0,0,0,0) x.2.1 (toN x.2.2)).2.2.1 ≥ r16))
 else
 some false
 else
 (Z14 (getAt (0,0,0,0,0) x.2.1 (toN x.2.2)).2.1).bind fun r15 =>
 bif (Bool.not r15) then
 bif ((getAt (0,0,0,0,0) x.2.1 (toN x.2.2)).2.2.2.2 != (Int.negSucc 0)) then
 some true
 else
 bif ((getAt (0,0,0,0,0) x.2.1 (toN x.2.2)).2.1 == 1) then
 bif (sub3 0 x.2.2 (List.length x.2.1)) then
 (loop Z68 (0,(cut x.2.1 (toN 0) ((toN x.2.2) - (toN 0))),(((List.length (cut x.2.1 (toN 0) ((toN x.2.2) - (toN 0)))):Nat):Int),0,(getAt (0,0,0,0,0) x.2.1 (toN x.2.2)))).bind fun r16 =>
 some (r16.2.2.2.1 != r16.1)
 else
 none
 else
 bif ((getAt (0,0,0,0,0) x.2.1 (toN x.2.2)).2.1 != 0) then
 bif (decide ((getAt (0,0,0,0,0) x.2.1 (toN x.2.2)).2.2.1 < 0)) then
 some true
 else
 (Z1e (x.1,(getAt (0,0,0,0,0) x.2.1 (toN x.2.2)).2.1)).bind fun r16 =>
 some (decide ((getAt (0,0,0,0,0) x.2.1 (toN x.2.2)).2.2.1 ≥ r16))
 else
 some false
 else
 bif ((getAt (0,0,0,0,0) x.2.1 (toN x.2.2)).2.1 == 1) then
 bif (sub3 0 x.2.2 (List.length x.2.1)) then
 (loop Z68 (0,(cut x.2.1 (toN 0) ((toN x.2.2) - (toN 0))),(((List.length (cut x.2.1 (toN 0) ((toN x.2.2) - (toN 0)))):Nat):Int),0,(getAt (0,0,0,0,0) x.2.1 (toN x.2.2)))).bind fun r16 =>
 some (r16.2.2.2.1 != r16.1)
 else
 none
 else
 bif ((getAt (0,0,0,0,0) x.2.1 (toN x.2.2)).2.1 != 0) then
 bif (decide ((getAt (0,0,0,0,0) x.2.1 (toN x.2.2)).2.2.1 < 0)) then
 some true
 else
 (Z1e (x.1,(getAt (0,0,0,0,0) x.2.1 (toN x.2.2)).2.1)).bind fun r16 =>
 some (decide ((getAt (0,0,0,0,0) x.2.1 (toN x.2.2)).2.2.1 ≥ r16))
 else
 some false
 else
 none
abbrev Zk6:=Spec.shp Zej Zhd Z1c
def Z8s:Ctx:=mC [(231,[],Zk8),(232,[],Zk2),(233,[],Zk7)] [(0,8,pieceSpec Zd2 Zc0 (loop Z68))] 73 0
theorem Z1d:Sound Tryz.prog 183 (Zk6) :=
 tS Z8s Tryz.f183 ⟨Z1h,Z15,Z1f,trivial⟩ ⟨(pL 8 Tryz.f183 Z69),trivial⟩
abbrev Zem:Shape:=⟨sl_2,[],ts_2,0⟩
abbrev Zhg:Shape:=⟨sl_2,[],ts_2,0⟩
def Z1i (x:(Int)):Option (Int) :=
 bif (x == 3) then
 some 2
 else
 bif (x == 5) then
 some 4
 else
 bif (x == 6) then
 some 4
 else
 bif (x == 9) then
 some 8
 else
 bif (x == 11) then
 some 10
 else
 some 13
abbrev Zk9:=Spec.shp Zem Zhg Z1i
def Z8w:Ctx:=mC [] [] 15 0
theorem Z1j:Sound Tryz.prog 234 (Zk9) :=
 tS Z8w Tryz.f234 trivial
abbrev Zee:Shape:=⟨sl_19,[],[y36,(.int .i64)],0⟩
abbrev Zh8:Shape:=⟨sl_1,[],ts_1,0⟩
def Z12 (x:T32):Option (Bool) :=
 bif (inb x.2 (List.length x.1)) then
 bif ((getAt (0,0,0,0,0) x.1 (toN x.2)).2.1 == 0) then
 some false
 else
 (Z14 (getAt (0,0,0,0,0) x.1 (toN x.2)).2.1).bind fun r15 =>
 bif (Bool.not r15) then
 some false
 else
 bif (decide ((getAt (0,0,0,0,0) x.1 (toN x.2)).2.2.2.2 < 0)) then
 some true
 else
 (Zw (x.1,x.2)).bind fun r16 =>
 bif ((getAt (0,0,0,0,0) x.1 (toN x.2)).2.2.2.2 != r16) then
 some true
 else
 bif (inb (getAt (0,0,0,0,0) x.1 (toN x.2)).2.2.2.2 (List.length x.1)) then
 bif (decide ((getAt (0,0,0,0,0) x.1 (toN x.2)).2.1 <= 6)) then
 bif ((getAt (0,0,0,0,0) x.1 (toN (getAt (0,0,0,0,0) x.1 (toN x.2)).2.2.2.2)).2.1 == 8) then
 some false
 else
 (Z1i (getAt (0,0,0,0,0) x.1 (toN x.2)).2.1).bind fun r17 =>
 bif ((getAt (0,0,0,0,0) x.1 (toN (getAt (0,0,0,0,0) x.1 (toN x.2)).2.2.2.2)).2.1 != r17) then
 some true
 else
 some ((getAt (0,0,0,0,0) x.1 (toN (getAt (0,0,0,0,0) x.1 (toN x.2)).2.2.2.2)).2.2.1 != (getAt (0,0,0,0,0) x.1 (toN x.2)).2.2.1)
 else
 (Z1i (getAt (0,0,0,0,0) x.1 (toN x.2)).2.1).bind fun r17 =>
 bif ((getAt (0,0,0,0,0) x.1 (toN (getAt (0,0,0,0,0) x.1 (toN x.2)).2.2.2.2)).2.1 != r17) then
 some true
 else
 some ((getAt (0,0,0,0,0) x.1 (toN (getAt (0,0,0,0,0) x.1 (toN x.2)).2.2.2.2)).2.2.1 != (getAt (0,0,0,0,0) x.1 (toN x.2)).2.2.1)
 else
 none
 else
 none
abbrev Zk1:=Spec.shp Zee Zh8 Z12
def Z8m:Ctx:=mC [(232,[],Zk2),(187,[],Zjy),(234,[],Zk9)] [] 57 0
theorem Z13:Sound Tryz.prog 184 (Zk1) :=
 tS Z8m Tryz.f184 ⟨Z15,Zx,Z1j,trivial⟩
abbrev Zcy:Shape:=⟨[(2,(.hole (.int .i64))),(3,(.hole (.int .i64))),(9,(.hole (.int .i64))),(14,(.hole y36)),(15,(.hole (.int .i64))),(16,(.hole (.int .i64)))],[],ts_18,0⟩
abbrev Zbw:List (ETag × Shape):=[(.exit 0,⟨[(9,(.hole (.int .i64)))],[],ts_2,0⟩)]
def Z60 (x:T42):Option (T42 ⊕ (Int)) :=
 let p:=x.2.2.2;
 let q:=p.2.2;
 bif (decide (q < p.2.1)) then
 bif (inb q (List.length p.1)) then
 bif ((getAt (0,0,0,0,0) p.1 (toN q)).2.1 == x.1) then
 bif ((getAt (0,0,0,0,0) p.1 (toN q)).2.2.1 == x.2.1) then
 some (.inl (x.1,x.2.1,(IntKind.wrap .i64 (x.2.2.1+1)),p.1,p.2.1,(IntKind.wrap .i64 (q+1))))
 else
 some (.inl (x.1,x.2.1,x.2.2.1,p.1,p.2.1,(IntKind.wrap .i64 (q+1))))
 else
 some (.inl (x.1,x.2.1,x.2.2.1,p.1,p.2.1,(IntKind.wrap .i64 (q+1))))
 else
 none
 else
 some (.inr x.2.2.1)
def Z8g:Ctx:=mC [] [] 34 0
theorem Z61:CSound Tryz.prog ⟨34,0,true⟩ (.loop (loopOf 4 Tryz.f235)) (pieceSpec Zcy Zbw (loop Z60)) :=
 tL Z8g 4 Tryz.f235 trivial
abbrev Zea:Shape:=⟨sl_20,[],ts_19,0⟩
abbrev Zh4:Shape:=⟨sl_2,[],ts_2,0⟩
def Zu (x:(List (T20) × Int × Int × Int)):Option (Int) :=
 bif (sub3 0 x.2.1 (List.length x.1)) then
 (loop Z60 (x.2.2.1,x.2.2.2,0,(cut x.1 (toN 0) ((toN x.2.1) - (toN 0))),(((List.length (cut x.1 (toN 0) ((toN x.2.1) - (toN 0)))):Nat):Int),0)).bind fun r17 =>
 some r17
 else
 none
abbrev Zjx:=Spec.shp Zea Zh4 Zu
def Z8f:Ctx:=mC [] [(0,4,pieceSpec Zcy Zbw (loop Z60))] 34 0
theorem Zv:Sound Tryz.prog 235 (Zjx) :=
 tS Z8f Tryz.f235 trivial ⟨(pL 4 Tryz.f235 Z61),trivial⟩
abbrev Zeh:Shape:=⟨sl_17,[],ts_17,0⟩
abbrev Zhb:Shape:=⟨sl_1,[],ts_1,0⟩
def Z18 (x:T38):Option (Bool) :=
 bif (inb x.2.2 (List.length x.2.1)) then
 bif ((getAt (0,0,0,0,0) x.2.1 (toN x.2.2)).2.1 != 3) then
 bif (decide ((getAt (0,0,0,0,0) x.2.1 (toN x.2.2)).2.1 < 5)) then
 some false
 else
 bif (decide ((getAt (0,0,0,0,0) x.2.1 (toN x.2.2)).2.1 > 7)) then
 some false
 else
 (Zu (x.2.1,x.2.2,3,(getAt (0,0,0,0,0) x.2.1 (toN x.2.2)).2.2.1)).bind fun r16 =>
 (Zu (x.2.1,x.2.2,5,(getAt (0,0,0,0,0) x.2.1 (toN x.2.2)).2.2.1)).bind fun r17 =>
 (Zu (x.2.1,x.2.2,7,(getAt (0,0,0,0,0) x.2.1 (toN x.2.2)).2.2.1)).bind fun r18 =>
 bif (inb (getAt (0,0,0,0,0) x.2.1 (toN x.2.2)).2.2.1 (List.length x.1)) then
 bif (decide ((getAt 0 x.1 (toN (getAt (0,0,0,0,0) x.2.1 (toN x.2.2)).2.2.1)) < 0)) then
 some true
 else
 bif ((getAt (0,0,0,0,0) x.2.1 (toN x.2.2)).2.1 == 3) then
 bif (decide (r18 > 0)) then
 some true
 else
 bif ((getAt (0,0,0,0,0) x.2.1 (toN x.2.2)).2.2.2.1 != r16) then
 some true
 else
 bif (inb (getAt (0,0,0,0,0) x.2.1 (toN x.2.2)).2.2.1 (List.length x.1)) then
 some (decide ((getAt (0,0,0,0,0) x.2.1 (toN x.2.2)).2.2.2.1 > (IntKind.wrap .i64 (r17+(getAt 0 x.1 (toN (getAt (0,0,0,0,0) x.2.1 (toN x.2.2)).2.2.1))))))
 else
 none
 else
 bif ((getAt (0,0,0,0,0) x.2.1 (toN x.2.2)).2.1 == 5) then
 bif ((getAt (0,0,0,0,0) x.2.1 (toN x.2.2)).2.2.2.1 != r17) then
 some true
 else
 some (decide ((getAt (0,0,0,0,0) x.2.1 (toN x.2.2)).2.2.2.1 > r16))
 else
 bif ((getAt (0,0,0,0,0) x.2.1 (toN x.2.2)).2.1 == 6) then
 bif (Bool.not (decide (r18 > 0))) then
 some true
 else
 some (r16 != r17)
 else
 some (decide (r18 > 0))
 else
 none
 else
 (Zu (x.2.1,x.2.2,3,(getAt (0,0,0,0,0) x.2.1 (toN x.2.2)).2.2.1)).bind fun r16 =>
 (Zu (x.2.1,x.2.2,5,(getAt (0,0,0,0,0) x.2.1 (toN x.2.2)).2.2.1)).bind fun r17 =>
 (Zu (x.2.1,x.2.2,7,(getAt (0,0,0,0,0) x.2.1 (toN x.2.2)).2.2.1)).bind fun r18 =>
 bif (inb (getAt (0,0,0,0,0) x.2.1 (toN x.2.2)).2.2.1 (List.length x.1)) then
 bif (decide ((getAt 0 x.1 (toN (getAt (0,0,0,0,0) x.2.1 (toN x.2.2)).2.2.1)) < 0)) then
 some true
 else
 bif ((getAt (0,0,0,0,0) x.2.1 (toN x.2.2)).2.1 == 3) then
 bif (decide (r18 > 0)) then
 some true
 else
 bif ((getAt (0,0,0,0,0) x.2.1 (toN x.2.2)).2.2.2.1 != r16) then
 some true
 else
 bif (inb (getAt (0,0,0,0,0) x.2.1 (toN x.2.2)).2.2.1 (List.length x.1)) then
 some (decide ((getAt (0,0,0,0,0) x.2.1 (toN x.2.2)).2.2.2.1 > (IntKind.wrap .i64 (r17+(getAt 0 x.1 (toN (getAt (0,0,0,0,0) x.2.1 (toN x.2.2)).2.2.1))))))
 else
 none
 else
 bif ((getAt (0,0,0,0,0) x.2.1 (toN x.2.2)).2.1 == 5) then
 bif ((getAt (0,0,0,0,0) x.2.1 (toN x.2.2)).2.2.2.1 != r17) then
 some true
 else
 some (decide ((getAt (0,0,0,0,0) x.2.1 (toN x.2.2)).2.2.2.1 > r16))
 else
 bif ((getAt (0,0,0,0,0) x.2.1 (toN x.2.2)).2.1 == 6) then
 bif (Bool.not (decide (r18 > 0))) then
 some true
 else
 some (r16 != r17)
 else
 some (decide (r18 > 0))
 else
 none
 else
 none
abbrev Zk4:=Spec.shp Zeh Zhb Z18
def Z8p:Ctx:=mC [(235,[],Zjx)] [] 96 0
theorem Z19:Sound Tryz.prog 185 (Zk4) :=
 tS Z8p Tryz.f185 ⟨Zv,trivial⟩
abbrev Zd1:Shape:=⟨[(0,(.hole y36)),(1,(.hole (.int .i64))),(5,(.ptr 0 [])),(23,(.hole y36)),(24,(.hole (.int .i64))),(25,(.hole (.int .i64)))],[.var (.hole y31)],[y36,(.int .i64),y36,(.int .i64),(.int .i64),y31],0⟩
abbrev Zbz:List (ETag × Shape):=[(.ret,⟨[(4,(.hole .bool))],[],ts_1,0⟩),(.exit 0,⟨[],[],[],0⟩)]
def Z66 (x:(List (T20) × Int × List (T20) × Int × Int × T20)):Option ((List (T20) × Int × List (T20) × Int × Int × T20) ⊕ ((Bool) ⊕ Unit)) :=
 let q:=x.2.2;
 let p:=q.2.2;
 bif (decide (p.1 < q.2.1)) then
 bif (inb p.1 (List.length q.1)) then
 bif ((getAt (0,0,0,0,0) q.1 (toN p.1)).2.1 == 13) then
 bif ((getAt (0,0,0,0,0) q.1 (toN p.1)).2.2.1 == p.2.2.2.1) then
 bif ((getAt (0,0,0,0,0) q.1 (toN p.1)).1 != p.2.1) then
 some (.inr (.inl true))
 else
 (Zu (x.1,x.2.1,14,p.2.2.2.1)).bind fun r21 =>
 some (.inr (.inl (decide (r21 > 0))))
 else
 some (.inl (x.1,x.2.1,q.1,q.2.1,(IntKind.wrap .i64 (p.1+1)),p.2))
 else
 some (.inl (x.1,x.2.1,q.1,q.2.1,(IntKind.wrap .i64 (p.1+1)),p.2))
 else
 none
 else
 some (.inr (.inr ()))
def Z8r:Ctx:=mC [(235,[],Zjx)] [] 53 0
theorem Z67:CSound Tryz.prog ⟨53,0,true⟩ (.loop (loopOf 6 Tryz.f236)) (pieceSpec Zd1 Zbz (loop Z66)) :=
 tL Z8r 6 Tryz.f236 ⟨Zv,trivial⟩
abbrev Zei:Shape:=⟨sl_19,[],[y36,(.int .i64)],0⟩
abbrev Zhc:Shape:=⟨sl_1,[],ts_1,0⟩
def Z1a (x:T32):Option (Bool) :=
 bif (inb x.2 (List.length x.1)) then
 bif ((getAt (0,0,0,0,0) x.1 (toN x.2)).2.1 == 15) then
 (Zu (x.1,x.2,14,(getAt (0,0,0,0,0) x.1 (toN x.2)).2.2.1)).bind fun r20 =>
 some (r20 == 0)
 else
 bif (sub3 0 x.2 (List.length x.1)) then
 (loop Z66 (x.1,x.2,(cut x.1 (toN 0) ((toN x.2) - (toN 0))),(((List.length (cut x.1 (toN 0) ((toN x.2) - (toN 0)))):Nat):Int),0,(getAt (0,0,0,0,0) x.1 (toN x.2)))).bind fun r20 =>
 match r20 with
 | .inl y21 =>
 some y21
 | .inr y21 =>
 some true
 else
 none
 else
 none
abbrev Zk5:=Spec.shp Zei Zhc Z1a
def Z8q:Ctx:=mC [(235,[],Zjx)] [(0,6,pieceSpec Zd1 Zbz (loop Z66))] 53 0
theorem Z1b:Sound Tryz.prog 236 (Zk5) :=
 tS Z8q Tryz.f236 ⟨Zv,trivial⟩ ⟨(pL 6 Tryz.f236 Z67),trivial⟩
abbrev Zeo:Shape:=⟨sl_19,[],[y36,(.int .i64)],0⟩
abbrev Zhi:Shape:=⟨sl_1,[],ts_1,0⟩
def Z1m (x:T32):Option (Bool) :=
 let p:=(getAt ((0:Int),(0:Int),(0:Int),(0:Int),(0:Int)) x.1 (toN x.2));
 bif (inb x.2 (List.length x.1)) then
 (Zu (x.1,x.2,11,p.2.2.1)).bind fun r17 =>
 (Zu (x.1,x.2,12,p.2.2.1)).bind fun r18 =>
 bif (p.2.1 == 11) then
 some ((IntKind.wrap .i64 (r17 - r18)) != 0)
 else
 bif (p.2.1 == 12) then
 some ((IntKind.wrap .i64 (r17 - r18)) != 1)
 else
 bif (p.2.1 == 14) then
 (Z1a (x.1,x.2)).bind fun r19 =>
 some r19
 else
 bif (p.2.1 == 15) then
 (Z1a (x.1,x.2)).bind fun r19 =>
 some r19
 else
 some false
 else
 none
abbrev Zkb:=Spec.shp Zeo Zhi Z1m
def Z8y:Ctx:=mC [(235,[],Zjx),(236,[],Zk5)] [] 45 0
theorem Z1n:Sound Tryz.prog 186 (Zkb) :=
 tS Z8y Tryz.f186 ⟨Zv,Z1b,trivial⟩
abbrev Zed:Shape:=⟨sl_17,[],ts_17,0⟩
abbrev Zh7:Shape:=⟨sl_1,[],ts_1,0⟩
def Z10 (x:T38):Option (Bool) :=
 let p:=x.2.2;
 (Z1k (x.2.1,p)).bind fun r11 =>
 bif r11 then
 some true
 else
 (Z16 (x.2.1,p)).bind fun r12 =>
 bif r12 then
 some true
 else
 (Z1c (x.1,x.2.1,p)).bind fun r13 =>
 bif r13 then
 some true
 else
 (Z12 (x.2.1,p)).bind fun r14 =>
 bif r14 then
 some true
 else
 (Z18 (x.1,x.2.1,p)).bind fun r15 =>
 bif r15 then
 some true
 else
 (Z1m (x.2.1,p)).bind fun r16 =>
 some r16
abbrev Zk0:=Spec.shp Zed Zh7 Z10
def Z8l:Ctx:=mC [(181,[],Zka),(182,[],Zk3),(183,[],Zk6),(184,[],Zk1),(185,[],Zk4),(186,[],Zkb)] [] 37 0
theorem Z11:Sound Tryz.prog 116 (Zk0) :=
 tS Z8l Tryz.f116 ⟨Z1l,Z17,Z1d,Z13,Z19,Z1n,trivial⟩
abbrev Zd0:Shape:=⟨[(0,(.hole y1)),(1,(.hole y36)),(7,(.hole (.int .i64))),(8,(.hole (.int .i64)))],[],ts_16,0⟩
abbrev Zby:List (ETag × Shape):=[(.ret,⟨sl_3,[],ts_2,0⟩),(.exit 0,⟨[],[],[],0⟩)]
def Z64 (x:T41):Option (T41 ⊕ ((Int) ⊕ Unit)) :=
 let p:=x.2.2;
 bif (decide (p.2 < p.1)) then
 (Z10 (x.1,x.2.1,p.2)).bind fun r10 =>
 bif r10 then
 some (.inr (.inl p.2))
 else
 some (.inl (x.1,x.2.1,p.1,(IntKind.wrap .i64 (p.2+1))))
 else
 some (.inr (.inr ()))
def Z8k:Ctx:=mC [(116,[],Zk0)] [] 17 0
theorem Z65:CSound Tryz.prog ⟨17,0,true⟩ (.loop (loopOf 3 Tryz.f76)) (pieceSpec Zd0 Zby (loop Z64)) :=
 tL Z8k 3 Tryz.f76 ⟨Z11,trivial⟩
end
end Go.Proofs.YtifbgkikkiallaaGreat.VX.VxZ_Z
set_option maxRecDepth 100000
namespace Go.Proofs.YtifbgkikkiallaaGreat.VX.VxZ_Z
open Go.Proofs Go.Proofs.YtifbgkikkiallaaGreat.VX.T2
noncomputable section
abbrev Zec:Shape:=⟨sl_9,[],[y1,y36],0⟩
abbrev Zh6:Shape:=⟨sl_2,[],ts_2,0⟩
def Zy (x:T36):Option (Int) :=
 (loop Z64 (x.1,x.2,(((List.length x.2):Nat):Int),0)).bind fun r9 =>
 match r9 with
 | .inl y10 =>
 some y10
 | .inr y10 =>
 some (Int.negSucc 0)
abbrev Zjz:=Spec.shp Zec Zh6 Zy
def Z8j:Ctx:=mC [(116,[],Zk0)] [(0,3,pieceSpec Zd0 Zby (loop Z64))] 17 0
theorem Zz:Sound Tryz.prog 76 (Zjz) :=
 tS Z8j Tryz.f76 ⟨Z11,trivial⟩ ⟨(pL 3 Tryz.f76 Z65),trivial⟩
abbrev Zep:Shape:=⟨sl_9,[],[y1,y36],0⟩
abbrev Zhj:Shape:=⟨sl_1,[],ts_1,0⟩
def Z1o (x:T36):Option (Bool) :=
 (Zs x.1).bind fun r7 =>
 bif r7 then
 (Zy (x.1,x.2)).bind fun r8 =>
 some (decide (r8 < 0))
 else
 some false
abbrev Zkc:=Spec.shp Zep Zhj Z1o
def Z8z:Ctx:=mC [(75,[],Zjw),(76,[],Zjz)] [] 13 0
theorem Z1p:Sound Tryz.prog 26 (Zkc) :=
 tS Z8z Tryz.f26 ⟨Zt,Zz,trivial⟩
abbrev Zd4:Shape:=⟨[(1,(.hole (.int .i64))),(2,(.hole (.int .i64))),(3,(.hole (.int .i64))),(11,(.hole y36)),(12,(.hole (.int .i64))),(13,(.hole (.int .i64)))],[],ts_18,0⟩
abbrev Zc2:List (ETag × Shape):=[(.ret,⟨[(8,(.hole (.int .i64)))],[],ts_2,0⟩),(.exit 0,⟨[],[],[],0⟩)]
def Z6c (x:T42):Option (T42 ⊕ ((Int) ⊕ Unit)) :=
 let p:=x.2.2.2;
 let q:=p.2.2;
 bif (decide (q < p.2.1)) then
 bif (inb q (List.length p.1)) then
 bif ((getAt (0,0,0,0,0) p.1 (toN q)).2.1 == x.1) then
 bif ((getAt (0,0,0,0,0) p.1 (toN q)).2.2.1 == x.2.1) then
 bif ((getAt (0,0,0,0,0) p.1 (toN q)).2.2.2.1 == x.2.2.1) then
 some (.inr (.inl (getAt (0,0,0,0,0) p.1 (toN q)).2.2.2.2))
 else
 some (.inl (x.1,x.2.1,x.2.2.1,p.1,p.2.1,(IntKind.wrap .i64 (q+1))))
 else
 some (.inl (x.1,x.2.1,x.2.2.1,p.1,p.2.1,(IntKind.wrap .i64 (q+1))))
 else
 some (.inl (x.1,x.2.1,x.2.2.1,p.1,p.2.1,(IntKind.wrap .i64 (q+1))))
 else
 none
 else
 some (.inr (.inr ()))
def Z94:Ctx:=mC [] [] 36 0
theorem Z6d:CSound Tryz.prog ⟨36,0,true⟩ (.loop (loopOf 3 Tryz.f188)) (pieceSpec Zd4 Zc2 (loop Z6c)) :=
 tL Z94 3 Tryz.f188 trivial
abbrev Zes:Shape:=⟨sl_20,[],ts_19,0⟩
abbrev Zhm:Shape:=⟨sl_2,[],ts_2,0⟩
def Z1u (x:(List (T20) × Int × Int × Int)):Option (Int) :=
 (loop Z6c (x.2.1,x.2.2.1,x.2.2.2,x.1,(((List.length x.1):Nat):Int),0)).bind fun r15 =>
 match r15 with
 | .inl y16 =>
 some y16
 | .inr y16 =>
 some (Int.negSucc 0)
abbrev Zkf:=Spec.shp Zes Zhm Z1u
def Z93:Ctx:=mC [] [(0,3,pieceSpec Zd4 Zc2 (loop Z6c))] 36 0
theorem Z1v:Sound Tryz.prog 188 (Zkf) :=
 tS Z93 Tryz.f188 trivial ⟨(pL 3 Tryz.f188 Z6d),trivial⟩
abbrev Zer:Shape:=⟨sl_16,[],ts_16,0⟩
abbrev Zhl:Shape:=⟨sl_1,[],ts_1,0⟩
def Z1s (x:T41):Option (Bool) :=
 let w:=x.2.2;
 let q:=(getAt ((0:Int),(0:Int),(0:Int),(0:Int),(0:Int)) x.2.1 (toN w.1));
 let a:=q.2.2;
 let p:=(getAt ((0:Int),(0:Int),(0:Int),(0:Int),(0:Int)) x.2.1 (toN w.2));
 let v:=p.2.2;
 let u:=(inb v.1 (List.length x.1));
 let s:=(getAt (0:Int) x.1 (toN v.1));
 bif (inb w.2 (List.length x.2.1)) then
 bif (inb w.1 (List.length x.2.1)) then
 (Zw (x.2.1,w.2)).bind fun r13 =>
 bif (w.1 == r13) then
 some true
 else
 bif (p.2.1 == 0) then
 bif (w.1 == v.2.2) then
 some true
 else
 bif (p.2.1 == 5) then
 (Z1u (x.2.1,3,v.1,v.2.1)).bind fun r14 =>
 some (w.1 == r14)
 else
 bif (p.2.1 == 3) then
 bif u then
 bif (decide (v.2.1 ≥ s)) then
 bif u then
 (Z1u (x.2.1,5,v.1,(IntKind.wrap .i64 (v.2.1 - s)))).bind fun r14 =>
 some (w.1 == r14)
 else
 none
 else
 some false
 else
 none
 else
 bif (p.2.1 == 6) then
 bif (q.2.1 == 7) then
 some (a.1 == v.1)
 else
 some false
 else
 bif (p.2.1 == 11) then
 bif (q.2.1 == 12) then
 some (a.1 == v.1)
 else
 some false
 else
 bif (p.2.1 == 15) then
 bif (q.2.1 == 14) then
 some (a.1 == v.1)
 else
 some false
 else
 some false
 else
 bif (p.2.1 == 5) then
 (Z1u (x.2.1,3,v.1,v.2.1)).bind fun r14 =>
 some (w.1 == r14)
 else
 bif (p.2.1 == 3) then
 bif u then
 bif (decide (v.2.1 ≥ s)) then
 bif u then
 (Z1u (x.2.1,5,v.1,(IntKind.wrap .i64 (v.2.1 - s)))).bind fun r14 =>
 some (w.1 == r14)
 else
 none
 else
 some false
 else
 none
 else
 bif (p.2.1 == 6) then
 bif (q.2.1 == 7) then
 some (a.1 == v.1)
 else
 some false
 else
 bif (p.2.1 == 11) then
 bif (q.2.1 == 12) then
 some (a.1 == v.1)
 else
 some false
 else
 bif (p.2.1 == 15) then
 bif (q.2.1 == 14) then
 some (a.1 == v.1)
 else
 some false
 else
 some false
 else
 none
 else
 none
abbrev Zke:=Spec.shp Zer Zhl Z1s
def Z92:Ctx:=mC [(187,[],Zjy),(188,[],Zkf)] [] 114 0
theorem Z1t:Sound Tryz.prog 117 (Zke) :=
 tS Z92 Tryz.f117 ⟨Zx,Z1v,trivial⟩
abbrev Zd3:Shape:=⟨sl_21,bl_9,[y1,y36,(.int .i64),(.int .i64),y1],0⟩
abbrev Zc1:List (ETag × Shape):=[(.exit 0,⟨[(7,(.sl 0))],bl_9,[y1],0⟩)]
def Z6a (x:T43):Option (T43 ⊕ (List Int)) :=
 let p:=x.2.2.2;
 bif (decide (p.1 < x.2.2.1)) then
 (Z1s (x.1,x.2.1,p.1,x.2.2.1)).bind fun r12 =>
 bif r12 then
 bif (fits ((List.length p.2)+(List.length (p.1 :: ([]:List Int))))) then
 some (.inl (x.1,x.2.1,x.2.2.1,(IntKind.wrap .i64 (p.1+1)),(p.2++(p.1 :: ([]:List Int)))))
 else
 none
 else
 some (.inl (x.1,x.2.1,x.2.2.1,(IntKind.wrap .i64 (p.1+1)),p.2))
 else
 some (.inr p.2)
def Z91:Ctx:=mC [(117,[],Zke)] [] 25 0
theorem Z6b:CSound Tryz.prog ⟨25,0,true⟩ (.loop (loopOf 4 Tryz.f77)) (pieceSpec Zd3 Zc1 (loop Z6a)) :=
 tL Z91 4 Tryz.f77 ⟨Z1t,trivial⟩
abbrev Zeq:Shape:=⟨sl_17,[],ts_17,0⟩
abbrev Zhk:Shape:=⟨sl_11,[],[y1],0⟩
def Z1q (x:T38):Option (List Int) :=
 (loop Z6a (x.1,x.2.1,x.2.2,0,([]:List Int))).bind fun r11 =>
 some r11
abbrev Zkd:=Spec.shp Zeq Zhk Z1q
def Z90:Ctx:=mC [(117,[],Zke)] [(0,4,pieceSpec Zd3 Zc1 (loop Z6a))] 25 0
theorem Z1r:Sound Tryz.prog 77 (Zkd) :=
 tS Z90 Tryz.f77 ⟨Z1t,trivial⟩ ⟨(pL 4 Tryz.f77 Z6b),trivial⟩
abbrev Zcw:Shape:=⟨[(0,(.hole y1)),(1,(.hole y1)),(12,(.hole (.int .i64))),(13,(.hole (.int .i64)))],[],[y1,y1,(.int .i64),(.int .i64)],0⟩
abbrev Zbu:List (ETag × Shape):=[(.ret,⟨[(4,(.hole .bool))],[],ts_1,0⟩),(.exit 0,⟨[],[],[],0⟩)]
def Z5w (x:T15):Option (T15 ⊕ ((Bool) ⊕ Unit)) :=
 let p:=x.2.2.2;
 bif (decide (p < x.2.2.1)) then
 bif (inb p (List.length x.1)) then
 bif (inb p (List.length x.2.1)) then
 bif ((getAt 0 x.1 (toN p)) != (getAt 0 x.2.1 (toN p))) then
 some (.inr (.inl false))
 else
 some (.inl (x.1,x.2.1,x.2.2.1,(IntKind.wrap .i64 (p+1))))
 else
 none
 else
 none
 else
 some (.inr (.inr ()))
def Z8c:Ctx:=mC [] [] 26 0
theorem Z5x:CSound Tryz.prog ⟨26,0,true⟩ (.loop (loopOf 5 Tryz.f28)) (pieceSpec Zcw Zbu (loop Z5w)) :=
 tL Z8c 5 Tryz.f28 trivial
abbrev Ze8:Shape:=⟨[(0,(.hole y1)),(1,(.hole y1))],[],[y1,y1],0⟩
abbrev Zh2:Shape:=⟨sl_1,[],ts_1,0⟩
def Zq (x:T9):Option (Bool) :=
 bif ((((List.length x.1):Nat):Int) != (((List.length x.2):Nat):Int)) then
 some false
 else
 (loop Z5w (x.1,x.2,(((List.length x.1):Nat):Int),0)).bind fun r9 =>
 match r9 with
 | .inl y10 =>
 some y10
 | .inr y10 =>
 some true
abbrev Zjv:=Spec.shp Ze8 Zh2 Zq
def Z8b:Ctx:=mC [] [(0,5,pieceSpec Zcw Zbu (loop Z5w))] 26 0
theorem Zr:Sound Tryz.prog 28 (Zjv) :=
 tS Z8b Tryz.f28 trivial ⟨(pL 5 Tryz.f28 Z5x),trivial⟩
abbrev Zd8:Shape:=⟨[(0,(.hole y1)),(1,(.hole y36)),(2,(.hole (.int .i64))),(7,(.sl 0)),(15,(.hole (.int .i64))),(16,(.hole (.int .i64)))],[.row .bool],[y1,y36,(.int .i64),(.int .i64),(.int .i64),y0],0⟩
abbrev Zc6:List (ETag × Shape):=[(.exit 0,⟨[(0,(.hole y1)),(1,(.hole y36)),(2,(.hole (.int .i64))),(7,(.sl 0))],[.row .bool],[y1,y36,(.int .i64),y0],0⟩)]
def Z6k (x:(List Int × List (T20) × Int × Int × Int × List Bool)):Option ((List Int × List (T20) × Int × Int × Int × List Bool) ⊕ (List Int × List (T20) × Int × List Bool)) :=
 let p:=x.2.2.2;
 bif (decide (p.2.1 < p.1)) then
 bif (fits ((List.length p.2.2)+(List.length (false :: ([]:List Bool))))) then
 some (.inl (x.1,x.2.1,x.2.2.1,p.1,(IntKind.wrap .i64 (p.2.1+1)),(p.2.2++(false :: ([]:List Bool)))))
 else
 none
 else
 some (.inr (x.1,x.2.1,x.2.2.1,p.2.2))
def Z9b:Ctx:=mC [] [] 63 0
theorem Z6l:CSound Tryz.prog ⟨63,0,true⟩ (.loop (loopOf 4 Tryz.f31)) (pieceSpec Zd8 Zc6 (loop Z6k)) :=
 tL Z9b 4 Tryz.f31 trivial
abbrev Zd6:Shape:=⟨[(0,(.hole y1)),(1,(.hole y36)),(2,(.hole (.int .i64))),(7,(.sl 0)),(8,(.hole (.int .i64))),(38,(.hole y1)),(39,(.hole (.int .i64))),(40,(.hole (.int .i64)))],[.row .bool],[y1,y36,(.int .i64),(.int .i64),y1,(.int .i64),(.int .i64),y0],0⟩
abbrev Zc4:List (ETag × Shape):=[(.exit 4,⟨sl_21,[.row .bool],[y1,y36,(.int .i64),(.int .i64),y0],0⟩)]
def Z6g (x:(List Int × List (T20) × Int × Int × List Int × Int × Int × List Bool)):Option ((List Int × List (T20) × Int × Int × List Int × Int × Int × List Bool) ⊕ (List Int × List (T20) × Int × Int × List Bool)) :=
 let p:=x.2.2.2.2;
 let q:=p.2.2;
 bif (decide (q.1 < p.2.1)) then
 bif (inb q.1 (List.length p.1)) then
 bif (inb (getAt 0 p.1 (toN q.1)) (List.length q.2)) then
 some (.inl (x.1,x.2.1,x.2.2.1,x.2.2.2.1,p.1,p.2.1,(IntKind.wrap .i64 (q.1+1)),(List.set q.2 (toN (getAt 0 p.1 (toN q.1))) true)))
 else
 none
 else
 none
 else
 some (.inr (x.1,x.2.1,x.2.2.1,x.2.2.2.1,q.2))
def Z99:Ctx:=mC [(77,[],Zkd)] [(0,4,pieceSpec Zd8 Zc6 (loop Z6k))] 63 0
theorem Z6h:CSound Tryz.prog ⟨63,0,true⟩ (.loop (loopOf 13 Tryz.f31)) (pieceSpec Zd6 Zc4 (loop Z6g)) :=
 tL Z99 13 Tryz.f31 ⟨Z1r,trivial⟩ ⟨pN,trivial⟩
abbrev Zd9:Shape:=⟨sl_21,[.row .bool],[y1,y36,(.int .i64),(.int .i64),y0],0⟩
abbrev Zc7:List (ETag × Shape):=[(.exit 2,⟨[(2,(.hole (.int .i64))),(7,(.sl 0))],[.row .bool],[(.int .i64),y0],0⟩)]
def Z6m (x:(List Int × List (T20) × Int × Int × List Bool)):Option ((List Int × List (T20) × Int × Int × List Bool) ⊕ (Int × List Bool)) :=
 let p:=x.2.2.2;
 bif (decide (p.1 ≥ 0)) then
 bif (inb p.1 (List.length p.2)) then
 bif (Bool.not (getAt false p.2 (toN p.1))) then
 some (.inl (x.1,x.2.1,x.2.2.1,(IntKind.wrap .i64 (p.1 - 1)),p.2))
 else
 (Z1q (x.1,x.2.1,p.1)).bind fun r14 =>
 (loop Z6g (x.1,x.2.1,x.2.2.1,p.1,r14,(((List.length r14):Nat):Int),0,p.2)).bind fun r15 =>
 some (.inl (r15.1,r15.2.1,r15.2.2.1,(IntKind.wrap .i64 (r15.2.2.2.1 - 1)),r15.2.2.2.2))
 else
 none
 else
 some (.inr (x.2.2.1,p.2))
def Z9c:Ctx:=mC [(77,[],Zkd)] [(0,4,pieceSpec Zd8 Zc6 (loop Z6k)),(0,13,pieceSpec Zd6 Zc4 (loop Z6g))] 63 0
theorem Z6n:CSound Tryz.prog ⟨63,0,true⟩ (.loop (loopOf 9 Tryz.f31)) (pieceSpec Zd9 Zc7 (loop Z6m)) :=
 tL Z9c 9 Tryz.f31 ⟨Z1r,trivial⟩ ⟨pN,(pL 13 Tryz.f31 Z6h),trivial⟩
abbrev Zd7:Shape:=⟨[(2,(.hole (.int .i64))),(7,(.sl 0)),(11,(.sl 1)),(12,(.hole (.int .i64)))],[.row .bool,.row (.int .i64)],[(.int .i64),(.int .i64),y0,y1],0⟩
abbrev Zc5:List (ETag × Shape):=[(.exit 6,⟨[(11,(.sl 0))],bl_9,[y1],0⟩)]
def Z6i (x:(Int × Int × List Bool × List Int)):Option ((Int × Int × List Bool × List Int) ⊕ (List Int)) :=
 let p:=x.2.2;
 bif (decide (x.2.1 < x.1)) then
 bif (inb x.2.1 (List.length p.1)) then
 bif (getAt false p.1 (toN x.2.1)) then
 bif (fits ((List.length p.2)+(List.length (x.2.1 :: ([]:List Int))))) then
 some (.inl (x.1,(IntKind.wrap .i64 (x.2.1+1)),p.1,(p.2++(x.2.1 :: ([]:List Int)))))
 else
 none
 else
 some (.inl (x.1,(IntKind.wrap .i64 (x.2.1+1)),p.1,p.2))
 else
 none
 else
 some (.inr p.2)
def Z9a:Ctx:=mC [(77,[],Zkd)] [(0,4,pieceSpec Zd8 Zc6 (loop Z6k)),(0,13,pieceSpec Zd6 Zc4 (loop Z6g)),(0,9,pieceSpec Zd9 Zc7 (loop Z6m))] 63 0
theorem Z6j:CSound Tryz.prog ⟨63,0,true⟩ (.loop (loopOf 19 Tryz.f31)) (pieceSpec Zd7 Zc5 (loop Z6i)) :=
 tL Z9a 19 Tryz.f31 ⟨Z1r,trivial⟩ ⟨pN,pN,pN,trivial⟩
abbrev Zev:Shape:=⟨sl_17,[],ts_17,0⟩
abbrev Zhp:Shape:=⟨sl_11,[],[y1],0⟩
def Z20 (x:T38):Option (List Int) :=
 (loop Z6k (x.1,x.2.1,x.2.2,(((List.length x.2.1):Nat):Int),0,([]:List Bool))).bind fun r12 =>
 let p:=r12.2.2;
 bif (inb p.1 (List.length p.2)) then
 (loop Z6m (r12.1,r12.2.1,p.1,p.1,(List.set p.2 (toN p.1) true))).bind fun r13 =>
 (loop Z6i (r13.1,0,r13.2,([]:List Int))).bind fun r14 =>
 some r14
 else
 none
abbrev Zki:=Spec.shp Zev Zhp Z20
def Z98:Ctx:=mC [(77,[],Zkd)] [(0,4,pieceSpec Zd8 Zc6 (loop Z6k)),(0,13,pieceSpec Zd6 Zc4 (loop Z6g)),(0,9,pieceSpec Zd9 Zc7 (loop Z6m)),(0,19,pieceSpec Zd7 Zc5 (loop Z6i))] 63 0
theorem Z21:Sound Tryz.prog 31 (Zki) :=
 tS Z98 Tryz.f31 ⟨Z1r,trivial⟩ ⟨(pL 4 Tryz.f31 Z6l),(pL 13 Tryz.f31 Z6h),(pL 9 Tryz.f31 Z6n),(pL 19 Tryz.f31 Z6j),trivial⟩
abbrev Zd5:Shape:=⟨[(2,(.hole (.int .i64))),(14,(.hole y1)),(15,(.hole (.int .i64))),(16,(.hole (.int .i64)))],[],ts_22,0⟩
abbrev Zc3:List (ETag × Shape):=[(.ret,⟨[(8,(.hole .bool))],[],ts_1,0⟩),(.exit 0,⟨[],[],[],0⟩)]
def Z6e (x:T12):Option (T12 ⊕ ((Bool) ⊕ Unit)) :=
 let p:=x.2.2;
 bif (decide (p.2 < p.1)) then
 bif (inb p.2 (List.length x.2.1)) then
 bif ((getAt 0 x.2.1 (toN p.2)) == x.1) then
 some (.inr (.inl true))
 else
 some (.inl (x.1,x.2.1,p.1,(IntKind.wrap .i64 (p.2+1))))
 else
 none
 else
 some (.inr (.inr ()))
def Z97:Ctx:=mC [(31,[],Zki)] [] 24 0
theorem Z6f:CSound Tryz.prog ⟨24,0,true⟩ (.loop (loopOf 3 Tryz.f32)) (pieceSpec Zd5 Zc3 (loop Z6e)) :=
 tL Z97 3 Tryz.f32 ⟨Z21,trivial⟩
abbrev Zeu:Shape:=⟨sl_16,[],ts_16,0⟩
abbrev Zho:Shape:=⟨sl_1,[],ts_1,0⟩
def Z1y (x:T41):Option (Bool) :=
 (Z20 (x.1,x.2.1,x.2.2.2)).bind fun r15 =>
 (loop Z6e (x.2.2.1,r15,(((List.length r15):Nat):Int),0)).bind fun r16 =>
 match r16 with
 | .inl y17 =>
 some y17
 | .inr y17 =>
 some false
abbrev Zkh:=Spec.shp Zeu Zho Z1y
def Z96:Ctx:=mC [(31,[],Zki)] [(0,3,pieceSpec Zd5 Zc3 (loop Z6e))] 24 0
theorem Z1z:Sound Tryz.prog 32 (Zkh) :=
 tS Z96 Tryz.f32 ⟨Z21,trivial⟩ ⟨(pL 3 Tryz.f32 Z6f),trivial⟩
abbrev Zet:Shape:=⟨sl_16,[],ts_16,0⟩
abbrev Zhn:Shape:=⟨sl_1,[],ts_1,0⟩
def Z1w (x:T41):Option (Bool) :=
 let p:=x.2.2;
 bif (p.1 != p.2) then
 (Z1y (x.1,x.2.1,p.1,p.2)).bind fun r16 =>
 bif (Bool.not r16) then
 (Z1y (x.1,x.2.1,p.2,p.1)).bind fun r17 =>
 some (Bool.not r17)
 else
 some false
 else
 some false
abbrev Zkg:=Spec.shp Zet Zhn Z1w
def Z95:Ctx:=mC [(32,[],Zkh)] [] 28 0
theorem Z1x:Sound Tryz.prog 33 (Zkg) :=
 tS Z95 Tryz.f33 ⟨Z1z,trivial⟩
abbrev Ze6:Shape:=⟨[(0,(.hole y36))],[],[y36],0⟩
abbrev Zh0:Shape:=⟨[(0,(.hole y36))],[],[y36],0⟩
def Zm (x:(List (T20))):Option (List (T20)) :=
 bif (sub3 0 (Min.min (((List.length x):Nat):Int) 40) (List.length x)) then
 some (cut x (toN 0) ((toN (Min.min (((List.length x):Nat):Int) 40)) - (toN 0)))
 else
 none
abbrev Zjt:=Spec.shp Ze6 Zh0 Zm
def Z89:Ctx:=mC [] [] 8 0
theorem Zn:Sound Tryz.prog 39 (Zjt) :=
 tS Z89 Tryz.f39 trivial
abbrev Zf7:Shape:=⟨[(0,(.hole y31))],[],[y31],0⟩
abbrev Zi1:Shape:=⟨sl_1,[],ts_1,0⟩
def Z2o (x:(T20)):Option (Bool) :=
 bif (x.2.1 == 16) then
 some true
 else
 some (x.2.1 == 17)
abbrev Zku:=Spec.shp Zf7 Zi1 Z2o
def Z9y:Ctx:=mC [] [] 11 0
theorem Z2p:Sound Tryz.prog 80 (Zku) :=
 tS Z9y Tryz.f80 trivial
abbrev Zf6:Shape:=⟨[(0,(.hole y6)),(1,(.hole y1))],[],[y6,y1],0⟩
abbrev Zi0:Shape:=⟨sl_1,[],ts_1,0⟩
def Z2m (x:((Int × Int) × List Int)):Option (Bool) :=
 bif (x.1.2 == 0) then
 some false
 else
 (Ze (x.1.1,x.2)).bind fun r8 =>
 some (Bool.not r8.1)
abbrev Zkt:=Spec.shp Zf6 Zi0 Z2m
def Z9x:Ctx:=mC [(35,[],Zjp)] [] 19 0
theorem Z2n:Sound Tryz.prog 118 (Zkt) :=
 tS Z9x Tryz.f118 ⟨Zf,trivial⟩
abbrev Zfb:Shape:=⟨[(0,(.hole y6)),(1,(.ptr 0 []))],[.var (.hole y1)],[y6,y1],0⟩
abbrev Zi5:Shape:=⟨sl_1,[.var (.hole y1)],[.bool,y1],1⟩
def Z2v (x:((Int × Int) × List Int)):Option (Bool × List Int) :=
 (Z2m (x.1,x.2)).bind fun r11 =>
 some (r11,x.2)
abbrev Zky:=Spec.shp Zfb Zi5 Z2v
def Za2:Ctx:=mC [(118,[],Zkt)] [] 7 1
theorem Z2w:Sound Tryz.prog 120 (Zky) :=
 tS Za2 Tryz.f120 ⟨Z2n,trivial⟩
abbrev Zdn:Shape:=⟨[(0,(.va 0 [.idx 0 18 4,.fld 1 true 2] 8 2)),(1,(.fn 120 .nil (.cons (.ptr 1 []) .nil))),(7,(.hole (.int .i64))),(8,(.hole (.int .i64)))],bl_12,[(.int .i64),(.int .i64),(.int .i64),y16,y1],2⟩
abbrev Zcl:List (ETag × Shape):=[(.ret,⟨sl_3,bl_12,[(.int .i64),y16,y1],2⟩),(.exit 0,⟨[],bl_12,[y16,y1],2⟩)]
def Z7e (x:(Int × Int × Int × List (T13) × List Int)):Option ((Int × Int × Int × List (T13) × List Int) ⊕ ((Int × List (T13) × List Int) ⊕ (List (T13) × List Int))) :=
 let p:=x.2.2;
 bif (decide (p.1 < x.2.1)) then
 bif (inb p.1 (8:Nat)) then
 (Z2v ((getAt (0,0) (getAt ((0,0),(List.replicate (8:Nat) (0,0))) p.2.1 (toN x.1)).2 (toN p.1)),p.2.2)).bind fun r10 =>
 bif r10.1 then
 some (.inr (.inl (p.1,p.2.1,r10.2)))
 else
 some (.inl ((natI (toN x.1)),x.2.1,(IntKind.wrap .i64 (p.1+1)),p.2.1,r10.2))
 else
 none
 else
 some (.inr (.inr (p.2.1,p.2.2)))
def Zah:Ctx:=mC [(120,[],Zky)] [] 19 2
theorem Z7f:CSound Tryz.prog ⟨19,2,true⟩ (.loop (loopOf 3 Tryz.f119)) (pieceSpec Zdn Zcl (loop Z7e)) :=
 tL Zah 3 Tryz.f119 ⟨Z2w,trivial⟩
abbrev Zfm:Shape:=⟨[(0,(.va 0 [.idx 0 18 4,.fld 1 true 2] 8 2)),(1,(.fn 120 .nil (.cons (.ptr 1 []) .nil)))],bl_12,[(.int .i64),y16,y1],0⟩
abbrev Zig:Shape:=⟨sl_2,bl_12,[(.int .i64),y16,y1],2⟩
def Z3i (x:(Int × List (T13) × List Int)):Option (Int × List (T13) × List Int) :=
 (loop Z7e ((natI (toN x.1)),(((8:Nat):Nat):Int),0,x.2.1,x.2.2)).bind fun r9 =>
 match r9 with
 | .inl y10 =>
 some (y10.1,y10.2.1,y10.2.2)
 | .inr y10 =>
 some ((Int.negSucc 0),y10.1,y10.2)
abbrev Zl9:=Spec.shp Zfm Zig Z3i
def Zag:Ctx:=mC [(120,[],Zky)] [(0,3,pieceSpec Zdn Zcl (loop Z7e))] 19 2
theorem Z3j:Sound Tryz.prog 119 (Zl9) :=
 tS Zag Tryz.f119 ⟨Z2w,trivial⟩ ⟨(pL 3 Tryz.f119 Z7f),trivial⟩
abbrev Zfa:Shape:=⟨[(0,(.ptr 0 [.idx 0 18 4])),(1,(.hole y31)),(2,(.hole y1))],[.var (.hole y16)],[(.int .i64),y31,y1,y16],0⟩
abbrev Zi4:Shape:=⟨sl_2,[.var (.hole y16)],[(.int .i64),y16],1⟩
def Z2u (x:(Int × T20 × List Int × List (T13))):Option (Int × List (T13)) :=
 let q:=x.2.2.2;
 let p:=(((0:Int),(0:Int)),(List.replicate (8:Nat) ((0:Int),(0:Int))));
 (Z2m ((getAt p q (toN x.1)).1,x.2.2.1)).bind fun r7 =>
 bif r7 then
 some ((getAt p q (toN x.1)).1.2,q)
 else
 bif (x.2.1.2.1 == 16) then
 some (0,q)
 else
 bif (Ty.beq (@Ty.arr 8 (@Ty.pair (@Ty.int Go.IntKind.i64) (@Ty.int Go.IntKind.i64))) (getAt p q (toN x.1)).2 (((0:Int),(0:Int)) :: (((0:Int),(0:Int)) :: (((0:Int),(0:Int)) :: (((0:Int),(0:Int)) :: (((0:Int),(0:Int)) :: (((0:Int),(0:Int)) :: (((0:Int),(0:Int)) :: (((0:Int),(0:Int)) :: ([]:List (Int × Int))))))))))) then
 some (0,q)
 else
 (Z3i ((natI (toN x.1)),q,x.2.2.1)).bind fun r8 =>
 bif (decide (r8.1 < 0)) then
 some (0,r8.2.1)
 else
 bif (inb r8.1 8) then
 some ((getAt (0,0) (getAt p r8.2.1 (toN x.1)).2 (toN r8.1)).2,r8.2.1)
 else
 none
abbrev Zkx:=Spec.shp Zfa Zi4 Z2u
def Za1:Ctx:=mC [(118,[],Zkt),(119,[120],Zl9)] [] 45 1
theorem Z2x:Sound Tryz.prog 81 (Zkx) :=
 tS Za1 Tryz.f81 ⟨Z2n,Z3j,trivial⟩
abbrev Zf8:Shape:=⟨[(0,(.hole y31)),(1,(.hole y1))],[],[y31,y1],0⟩
abbrev Zi2:Shape:=⟨sl_2,[],ts_2,0⟩
def Z2q (x:(T20 × List Int)):Option (Int) :=
 bif (inb x.1.1 (List.length x.2)) then
 (Zg ((getAt 0 x.2 (toN x.1.1)),x.1.1)).bind fun r8 =>
 some r8.1
 else
 none
abbrev Zkv:=Spec.shp Zf8 Zi2 Z2q
def Z9z:Ctx:=mC [(34,[],Zjq)] [] 19 0
theorem Z2r:Sound Tryz.prog 83 (Zkv) :=
 tS Z9z Tryz.f83 ⟨Zh,trivial⟩
abbrev Zfc:Shape:=⟨[(0,(.ptr 0 [.idx 0 18 4])),(1,(.hole y31)),(2,(.hole y6))],[.var (.hole y16)],[(.int .i64),y31,y6,y16],0⟩
abbrev Zi6:Shape:=⟨[],[.var (.hole y16)],[y16],1⟩
def Z2y (x:(Int × T20 × (Int × Int) × List (T13))):Option (List (T13)) :=
 let p:=x.2.2;
 bif (x.2.1.2.1 == 17) then
 some (List.set p.2 (toN x.1) (p.1,(getAt ((0,0),(List.replicate (8:Nat) (0,0))) p.2 (toN x.1)).2))
 else
 bif (inb x.2.1.1 8) then
 some (List.set p.2 (toN x.1) ((getAt ((0,0),(List.replicate (8:Nat) (0,0))) p.2 (toN x.1)).1,(List.set (getAt ((0,0),(List.replicate (8:Nat) (0,0))) p.2 (toN x.1)).2 (toN x.2.1.1) p.1)))
 else
 none
abbrev Zkz:=Spec.shp Zfc Zi6 Z2y
def Za3:Ctx:=mC [] [] 20 1
theorem Z2z:Sound Tryz.prog 82 (Zkz) :=
 tS Za3 Tryz.f82 trivial
abbrev Zdh:Shape:=⟨[(4,(.ptr 0 [])),(6,(.hole (.slice y1))),(8,(.ptr 1 [])),(23,(.hole y36)),(24,(.hole (.int .i64))),(25,(.hole (.int .i64)))],[.var (.hole y7),.var (.hole y16)],[(.slice y1),y36,(.int .i64),(.int .i64),y7,y16],0⟩
abbrev Zcf:List (ETag × Shape):=[(.ret,⟨[(4,(.ptr 0 [])),(5,(.hole (.int .i64)))],[.var (.hole y7)],[(.int .i64),y7],0⟩),(.exit 0,⟨[(4,(.ptr 0 []))],[.var (.hole y7)],[y7],0⟩)]
def Z72 (x:(List (List Int) × List (T20) × Int × Int × T7 × List (T13))):Option ((List (List Int) × List (T20) × Int × Int × T7 × List (T13)) ⊕ ((Int × T7) ⊕ (T7))) :=
 let q:=x.2.2.2;
 let s:=(IntKind.wrap .i64 (q.1+(1:Int)));
 let p:=(getAt ((0:Int),(0:Int),(0:Int),(0:Int),(0:Int)) x.2.1 (toN q.1));
 bif (decide (q.1 < x.2.2.1)) then
 bif (inb q.1 (List.length x.2.1)) then
 (Z2o p).bind fun r5 =>
 bif (Bool.not r5) then
 some (.inl (x.1,x.2.1,x.2.2.1,s,q.2.1,q.2.2))
 else
 bif (inb p.2.2.1 4) then
 bif (inb q.1 (List.length x.1)) then
 (Z2u ((natI (toN p.2.2.1)),p,(getAt ([]:List Int) x.1 (toN q.1)),q.2.2)).bind fun r6 =>
 bif (decide (r6.1 > 0)) then
 some (.inr (.inl (0,q.1,(IntKind.wrap .i64 (r6.1 - 1)),p.2.2.1)))
 else
 bif (inb q.1 (List.length x.1)) then
 (Z2q (p,(getAt ([]:List Int) x.1 (toN q.1)))).bind fun r7 =>
 (Z2y ((natI (toN p.2.2.1)),p,(r7,s),r6.2)).bind fun r8 =>
 some (.inl (x.1,x.2.1,x.2.2.1,s,q.2.1,r8))
 else
 none
 else
 none
 else
 none
 else
 none
 else
 some (.inr (.inr q.2.1))
def Z9s:Ctx:=mC [(19,[],Zlc),(80,[],Zku),(81,[],Zkx),(83,[],Zkv),(82,[],Zkz)] [] 65 0
theorem Z73:CSound Tryz.prog ⟨65,0,true⟩ (.loop (loopOf 7 Tryz.f40)) (pieceSpec Zdh Zcf (loop Z72)) :=
 tL Z9s 7 Tryz.f40 ⟨Z3p,Z2p,Z2x,Z2r,Z2z,trivial⟩
abbrev Zf3:Shape:=⟨sl_9,[],[y1,y36],0⟩
abbrev Zhx:Shape:=⟨[(0,(.hole y7)),(1,(.hole (.int .i64)))],[],[y7,(.int .i64)],0⟩
def Z2g (x:T36):Option (T7 × Int) :=
 let p:=(((0:Int),(0:Int)),(((0:Int),(0:Int)) :: (((0:Int),(0:Int)) :: (((0:Int),(0:Int)) :: (((0:Int),(0:Int)) :: (((0:Int),(0:Int)) :: (((0:Int),(0:Int)) :: (((0:Int),(0:Int)) :: (((0:Int),(0:Int)) :: ([]:List (Int × Int)))))))))));
 (Z3o (x.1,x.2)).bind fun r3 =>
 bif (r3.2 != 0) then
 some ((0,0,0),r3.2)
 else
 (loop Z72 (r3.1,x.2,(((List.length x.2):Nat):Int),0,(0,0,0),(p :: (p :: (p :: (p :: ([]:List ((Int × Int) × T5)))))))).bind fun r4 =>
 match r4 with
 | .inl y5 =>
 some (y5.2,y5.1)
 | .inr y5 =>
 some ((0,0,0),4)
abbrev Zkq:=Spec.shp Zf3 Zhx Z2g
def Z9r:Ctx:=mC [(19,[],Zlc),(80,[],Zku),(81,[],Zkx),(83,[],Zkv),(82,[],Zkz)] [(0,7,pieceSpec Zdh Zcf (loop Z72))] 65 0
theorem Z2h:Sound Tryz.prog 40 (Zkq) :=
 tS Z9r Tryz.f40 ⟨Z3p,Z2p,Z2x,Z2r,Z2z,trivial⟩ ⟨(pL 7 Tryz.f40 Z73),trivial⟩
abbrev Zf9:Shape:=⟨[(0,(.hole (.slice y1))),(1,(.hole y36)),(2,(.hole (.int .i64))),(3,(.hole (.int .i64)))],[],[(.slice y1),y36,(.int .i64),(.int .i64)],0⟩
abbrev Zi3:Shape:=⟨sl_1,[],ts_1,0⟩
def Z2s (x:(List (List Int) × List (T20) × Int × Int)):Option (Bool) :=
 let u:=x.2.2;
 let p:=((0:Int),(0:Int),(0:Int),(0:Int),(0:Int));
 let s:=(getAt p x.2.1 (toN u.2));
 let q:=(getAt p x.2.1 (toN u.1));
 bif (inb u.1 (List.length x.2.1)) then
 bif (inb u.2 (List.length x.2.1)) then
 (Z2o q).bind fun r6 =>
 bif (Bool.not r6) then
 some false
 else
 (Z2o s).bind fun r7 =>
 bif (Bool.not r7) then
 some false
 else
 bif (q.2.2.1 != s.2.2.1) then
 some false
 else
 bif (q.2.1 == 16) then
 bif (s.2.1 == 16) then
 some false
 else
 bif (inb u.1 (List.length x.1)) then
 (Z2q (q,(getAt ([]:List Int) x.1 (toN u.1)))).bind fun r8 =>
 bif (inb u.2 (List.length x.1)) then
 (Z2m ((r8,1),(getAt ([]:List Int) x.1 (toN u.2)))).bind fun r9 =>
 some r9
 else
 none
 else
 none
 else
 bif (inb u.1 (List.length x.1)) then
 (Z2q (q,(getAt ([]:List Int) x.1 (toN u.1)))).bind fun r8 =>
 bif (inb u.2 (List.length x.1)) then
 (Z2m ((r8,1),(getAt ([]:List Int) x.1 (toN u.2)))).bind fun r9 =>
 some r9
 else
 none
 else
 none
 else
 none
 else
 none
abbrev Zkw:=Spec.shp Zf9 Zi3 Z2s
def Za0:Ctx:=mC [(80,[],Zku),(83,[],Zkv),(118,[],Zkt)] [] 56 0
theorem Z2t:Sound Tryz.prog 84 (Zkw) :=
 tS Za0 Tryz.f84 ⟨Z2p,Z2r,Z2n,trivial⟩
abbrev Zf4:Shape:=⟨sl_16,[],ts_16,0⟩
abbrev Zhy:Shape:=⟨sl_15,[],ts_15,0⟩
def Z2i (x:T41):Option T1 :=
 let p:=x.2.2;
 (Z3o (x.1,x.2.1)).bind fun r4 =>
 bif (r4.2 != 0) then
 some (false,r4.2)
 else
 bif (decide (p.1 < 0)) then
 some (false,3)
 else
 bif (decide (p.1 ≥ (((List.length x.2.1):Nat):Int))) then
 some (false,3)
 else
 bif (decide (p.2 < 0)) then
 some (false,3)
 else
 bif (decide (p.2 ≥ (((List.length x.2.1):Nat):Int))) then
 some (false,3)
 else
 (Z2s (r4.1,x.2.1,(Min.min p.1 p.2),(Max.max p.1 p.2))).bind fun r5 =>
 some (r5,0)
abbrev Zkr:=Spec.shp Zf4 Zhy Z2i
def Z9t:Ctx:=mC [(19,[],Zlc),(84,[],Zkw)] [] 50 0
theorem Z2j:Sound Tryz.prog 41 (Zkr) :=
 tS Z9t Tryz.f41 ⟨Z3p,Z2t,trivial⟩
abbrev Zdo:Shape:=⟨[(0,(.hole y1)),(1,(.hole (.int .i64))),(7,(.hole (.int .i64))),(8,(.hole (.int .i64)))],[],[y1,(.int .i64),(.int .i64),(.int .i64)],0⟩
abbrev Zcm:List (ETag × Shape):=[(.ret,⟨sl_3,[],ts_2,0⟩),(.exit 0,⟨[],[],[],0⟩)]
def Z7g (x:(List Int × Int × Int × Int)):Option ((List Int × Int × Int × Int) ⊕ ((Int) ⊕ Unit)) :=
 let p:=x.2.2;
 bif (decide (p.2 < p.1)) then
 bif (inb p.2 (List.length x.1)) then
 bif (x.2.1 == (getAt 0 x.1 (toN p.2))) then
 some (.inr (.inl p.2))
 else
 some (.inl (x.1,x.2.1,p.1,(IntKind.wrap .i64 (p.2+1))))
 else
 none
 else
 some (.inr (.inr ()))
def Zaj:Ctx:=mC [] [] 19 0
theorem Z7h:CSound Tryz.prog ⟨19,0,true⟩ (.loop (loopOf 3 Tryz.f121)) (pieceSpec Zdo Zcm (loop Z7g)) :=
 tL Zaj 3 Tryz.f121 trivial
abbrev Zfn:Shape:=⟨sl_14,[],ts_14,0⟩
abbrev Zih:Shape:=⟨sl_2,[],ts_2,0⟩
def Z3k (x:T3):Option (Int) :=
 (loop Z7g (x.1,x.2,(((List.length x.1):Nat):Int),0)).bind fun r11 =>
 match r11 with
 | .inl y12 =>
 some y12
 | .inr y12 =>
 some (Int.negSucc 0)
abbrev Zla:=Spec.shp Zfn Zih Z3k
def Zai:Ctx:=mC [] [(0,3,pieceSpec Zdo Zcm (loop Z7g))] 19 0
theorem Z3n:Sound Tryz.prog 121 (Zla) :=
 tS Zai Tryz.f121 trivial ⟨(pL 3 Tryz.f121 Z7h),trivial⟩
abbrev Zfh:Shape:=⟨sl_14,[],ts_14,0⟩
abbrev Zib:Shape:=⟨sl_1,[],ts_1,0⟩
def Z38 (x:T3):Option (Bool) :=
 (Z3k (x.1,x.2)).bind fun r10 =>
 some (decide (r10 ≥ 0))
abbrev Zl4:=Spec.shp Zfh Zib Z38
def Za8:Ctx:=mC [(121,[],Zla)] [] 9 0
theorem Z3b:Sound Tryz.prog 85 (Zl4) :=
 tS Za8 Tryz.f85 ⟨Z3n,trivial⟩
abbrev Zdp:Shape:=⟨[(0,(.sl 0)),(1,(.hole (.int .i64))),(7,(.hole (.int .i64))),(8,(.hole (.int .i64)))],bl_9,[(.int .i64),(.int .i64),(.int .i64),y1],1⟩
abbrev Zcn:List (ETag × Shape):=[(.ret,⟨sl_3,bl_9,ts_11,1⟩),(.exit 0,⟨[],bl_9,[y1],1⟩)]
def Z7i (x:(Int × Int × Int × List Int)):Option ((Int × Int × Int × List Int) ⊕ (T2 ⊕ (List Int))) :=
 let p:=x.2.2;
 bif (decide (p.1 < x.2.1)) then
 bif (inb p.1 (List.length p.2)) then
 bif (x.1 == (getAt 0 p.2 (toN p.1))) then
 some (.inr (.inl (p.1,p.2)))
 else
 some (.inl (x.1,x.2.1,(IntKind.wrap .i64 (p.1+1)),p.2))
 else
 none
 else
 some (.inr (.inr p.2))
def Zal:Ctx:=mC [] [] 19 1
theorem Z7j:CSound Tryz.prog ⟨19,1,true⟩ (.loop (loopOf 3 Tryz.f121)) (pieceSpec Zdp Zcn (loop Z7i)) :=
 tL Zal 3 Tryz.f121 trivial
abbrev Zfo:Shape:=⟨[(0,(.sl 0)),(1,(.hole (.int .i64)))],bl_9,ts_11,0⟩
abbrev Zii:Shape:=⟨sl_2,bl_9,ts_11,1⟩
def Z3l (x:T2):Option T2 :=
 (loop Z7i (x.1,(((List.length x.2):Nat):Int),0,x.2)).bind fun r11 =>
 match r11 with
 | .inl y12 =>
 some (y12.1,y12.2)
 | .inr y12 =>
 some ((Int.negSucc 0),y12)
abbrev Zlb:=Spec.shp Zfo Zii Z3l
def Zak:Ctx:=mC [] [(0,3,pieceSpec Zdp Zcn (loop Z7i))] 19 1
theorem Z3m:Sound Tryz.prog 121 (Zlb) :=
 tS Zak Tryz.f121 trivial ⟨(pL 3 Tryz.f121 Z7j),trivial⟩
abbrev Zfi:Shape:=⟨[(0,(.sl 0)),(1,(.hole (.int .i64)))],bl_9,ts_11,0⟩
abbrev Zic:Shape:=⟨sl_1,bl_9,[.bool,y1],1⟩
def Z39 (x:T2):Option (Bool × List Int) :=
 (Z3l (x.1,x.2)).bind fun r10 =>
 some ((decide (r10.1 ≥ 0)),r10.2)
abbrev Zl5:=Spec.shp Zfi Zic Z39
def Za9:Ctx:=mC [(121,[2000000],Zlb)] [] 9 1
theorem Z3a:Sound Tryz.prog 85 (Zl5) :=
 tS Za9 Tryz.f85 ⟨Z3m,trivial⟩
abbrev Zdi:Shape:=⟨[(1,(.hole y36)),(6,(.hole (.slice y1))),(8,(.sl 0)),(9,(.hole (.int .i64))),(21,(.hole (.int .i64))),(22,(.hole (.int .i64))),(25,(.hole (.int .i64))),(26,(.hole (.int .i64)))],bl_9,[y36,(.slice y1),(.int .i64),(.int .i64),(.int .i64),(.int .i64),(.int .i64),y1],0⟩
abbrev Zcg:List (ETag × Shape):=[(.exit 2,⟨sl_23,bl_9,[y36,(.slice y1),(.int .i64),(.int .i64),y1],0⟩)]
def Z74 (x:(List (T20) × List (List Int) × Int × Int × Int × Int × Int × List Int)):Option ((List (T20) × List (List Int) × Int × Int × Int × Int × Int × List Int) ⊕ (List (T20) × List (List Int) × Int × Int × List Int)) :=
 let s:=x.2.2;
 let q:=s.2.2;
 let u:=q.2.2;
 let p:=(getAt ((0:Int),(0:Int),(0:Int),(0:Int),(0:Int)) x.1 (toN s.1));
 bif (decide (u.1 < q.2.1)) then
 (Z2s (x.2.1,x.1,u.1,s.1)).bind fun r8 =>
 bif r8 then
 bif (inb s.1 (List.length x.1)) then
 (Z39 (p.2.2.1,u.2)).bind fun r9 =>
 bif (Bool.not r9.1) then
 bif (inb s.1 (List.length x.1)) then
 bif (fits ((List.length r9.2)+(List.length (p.2.2.1 :: ([]:List Int))))) then
 some (.inl (x.1,x.2.1,s.1,s.2.1,q.1,q.2.1,(IntKind.wrap .i64 (u.1+1)),(r9.2++(p.2.2.1 :: ([]:List Int)))))
 else
 none
 else
 none
 else
 some (.inl (x.1,x.2.1,s.1,s.2.1,q.1,q.2.1,(IntKind.wrap .i64 (u.1+1)),r9.2))
 else
 none
 else
 some (.inl (x.1,x.2.1,s.1,s.2.1,q.1,q.2.1,(IntKind.wrap .i64 (u.1+1)),u.2))
 else
 some (.inr (x.1,x.2.1,s.2.1,q.1,u.2))
def Z9v:Ctx:=mC [(19,[],Zlc),(84,[],Zkw),(85,[],Zl4),(85,[2000000],Zl5)] [] 57 0
theorem Z75:CSound Tryz.prog ⟨57,0,true⟩ (.loop (loopOf 10 Tryz.f42)) (pieceSpec Zdi Zcg (loop Z74)) :=
 tL Z9v 10 Tryz.f42 ⟨Z3p,Z2t,Z3b,Z3a,trivial⟩
abbrev Zdj:Shape:=⟨sl_23,bl_9,[y36,(.slice y1),(.int .i64),(.int .i64),y1],0⟩
abbrev Zch:List (ETag × Shape):=[(.exit 0,⟨[(8,(.sl 0))],bl_9,[y1],0⟩)]
def Z76 (x:(List (T20) × List (List Int) × Int × Int × List Int)):Option ((List (T20) × List (List Int) × Int × Int × List Int) ⊕ (List Int)) :=
 let p:=x.2.2.2;
 bif (decide (p.1 < x.2.2.1)) then
 (loop Z74 (x.1,x.2.1,p.1,x.2.2.1,p.1,p.1,0,p.2)).bind fun r7 =>
 some (.inl (r7.1,r7.2.1,r7.2.2.1,(IntKind.wrap .i64 (r7.2.2.2.1+1)),r7.2.2.2.2))
 else
 some (.inr p.2)
def Z9w:Ctx:=mC [(19,[],Zlc),(84,[],Zkw),(85,[],Zl4),(85,[2000000],Zl5)] [(0,10,pieceSpec Zdi Zcg (loop Z74))] 57 0
theorem Z77:CSound Tryz.prog ⟨57,0,true⟩ (.loop (loopOf 7 Tryz.f42)) (pieceSpec Zdj Zch (loop Z76)) :=
 tL Z9w 7 Tryz.f42 ⟨Z3p,Z2t,Z3b,Z3a,trivial⟩ ⟨(pL 10 Tryz.f42 Z75),trivial⟩
abbrev Zf5:Shape:=⟨sl_9,[],[y1,y36],0⟩
abbrev Zhz:Shape:=⟨sl_14,[],ts_14,0⟩
def Z2k (x:T36):Option T3 :=
 (Z3o (x.1,x.2)).bind fun r5 =>
 bif (r5.2 != 0) then
 some (([]:List Int),r5.2)
 else
 (loop Z76 (x.2,r5.1,(((List.length x.2):Nat):Int),0,([]:List Int))).bind fun r6 =>
 bif (fits (List.length r6)) then
 some ((Yge r6 (0:Nat) (List.length r6)),0)
 else
 none
abbrev Zks:=Spec.shp Zf5 Zhz Z2k
def Z9u:Ctx:=mC [(19,[],Zlc),(84,[],Zkw),(85,[],Zl4),(85,[2000000],Zl5),(64,[2000000],Ygg)] [(0,10,pieceSpec Zdi Zcg (loop Z74)),(0,7,pieceSpec Zdj Zch (loop Z76))] 57 0
theorem Z2l:Sound Tryz.prog 42 (Zks) :=
 tS Z9u Tryz.f42 ⟨Z3p,Z2t,Z3b,Z3a,Y7,trivial⟩ ⟨(pL 10 Tryz.f42 Z75),(pL 7 Tryz.f42 Z77),trivial⟩
abbrev Ze5:Shape:=⟨[],[],[],0⟩
abbrev Zgz:Shape:=⟨sl_1,[],ts_1,0⟩
def Zk (x:Unit):Option (Bool) :=
 (Z2g (([]:List Int),((0,0,0,0,(Int.negSucc 0)) :: ((0,1,1,0,(Int.negSucc 0)) :: ((1,0,0,0,1) :: ((0,17,0,0,(Int.negSucc 0)) :: ((1,17,0,0,(Int.negSucc 0)) :: ([]:List T20)))))))).bind fun r7 =>
 (Z2g (([]:List Int),(cut ((0,0,0,0,(Int.negSucc 0)) :: ((0,1,1,0,(Int.negSucc 0)) :: ((1,0,0,0,1) :: ((0,17,0,0,(Int.negSucc 0)) :: ((1,17,0,0,(Int.negSucc 0)) :: ([]:List T20)))))) (toN 0) ((toN 4) - (toN 0))))).bind fun r8 =>
 bif (r7.2 == 0) then
 bif (r8.2 == 4) then
 some ((r7.1.1 == (4,3,0).1) && ((r7.1.2.1 == (4,3,0).2.1) && (r7.1.2.2 == (4,3,0).2.2)))
 else
 some false
 else
 some false
abbrev Zjs:=Spec.shp Ze5 Zgz Zk
def Z88:Ctx:=mC [(40,[2000000],Zkq),(40,[],Zkq)] [] 34 0
theorem Zl:Sound Tryz.prog 43 (Zjs) :=
 tS Z88 Tryz.f43 ⟨Z2h,Z2h,trivial⟩
abbrev Zez:Shape:=⟨[(0,(.hole y31)),(1,(.hole y31))],[],[y31,y31],0⟩
abbrev Zht:Shape:=⟨sl_1,[],ts_1,0⟩
def Z28 (x:(T20 × T20)):Option (Bool) :=
 bif (decide (x.1.2.1 ≥ 16)) then
 bif (decide (x.2.2.1 ≥ 16)) then
 bif (x.1.2.2.1 == x.2.2.2.1) then
 bif (x.1.2.1 == 17) then
 some true
 else
 some (x.2.2.1 == 17)
 else
 some false
 else
 some false
 else
 some false
abbrev Zkm:=Spec.shp Zez Zht Z28
def Z9j:Ctx:=mC [] [] 30 0
theorem Z29:Sound Tryz.prog 88 (Zkm) :=
 tS Z9j Tryz.f88 trivial
abbrev Zex:Shape:=⟨sl_16,[],ts_16,0⟩
abbrev Zhr:Shape:=⟨sl_1,[],ts_1,0⟩
def Z24 (x:T41):Option (Bool) :=
 let p:=x.2.2;
 bif (inb p.1 (List.length x.2.1)) then
 bif (inb p.2 (List.length x.2.1)) then
 (Z28 ((getAt (0,0,0,0,0) x.2.1 (toN p.1)),(getAt (0,0,0,0,0) x.2.1 (toN p.2)))).bind fun r11 =>
 bif r11 then
 (Z1w (x.1,x.2.1,p.1,p.2)).bind fun r12 =>
 some r12
 else
 some false
 else
 none
 else
 none
abbrev Zkk:=Spec.shp Zex Zhr Z24
def Z9e:Ctx:=mC [(88,[],Zkm),(33,[],Zkg)] [] 25 0
theorem Z25:Sound Tryz.prog 47 (Zkk) :=
 tS Z9e Tryz.f47 ⟨Z29,Z1x,trivial⟩
abbrev Zda:Shape:=⟨[(0,(.hole y1)),(1,(.hole y36)),(5,(.sl 0)),(6,(.hole (.int .i64))),(7,(.hole .bool)),(8,(.hole (.int .i64))),(9,(.hole (.int .i64))),(16,(.hole (.int .i64))),(17,(.hole (.int .i64)))],bl_9,[y1,y36,(.int .i64),.bool,(.int .i64),(.int .i64),(.int .i64),(.int .i64),y1],0⟩
abbrev Zc8:List (ETag × Shape):=[(.exit 4,⟨sl_24,bl_9,ts_21,0⟩)]
def Z6o (x:(List Int × List (T20) × Int × Bool × Int × Int × Int × Int × List Int)):Option ((List Int × List (T20) × Int × Bool × Int × Int × Int × Int × List Int) ⊕ (T44)) :=
 let s:=x.2.2;
 let p:=s.2.2;
 let q:=p.2.2;
 bif (decide (p.2.1 < p.1)) then
 bif (inb p.1 (List.length x.2.1)) then
 bif ((getAt (0,0,0,0,0) x.2.1 (toN p.1)).2.2.1 == s.1) then
 bif s.2.1 then
 some (.inl (x.1,x.2.1,s.1,true,p.1,(IntKind.wrap .i64 (p.2.1+1)),q.1,q.2.1,q.2.2))
 else
 (Z24 (x.1,x.2.1,p.2.1,p.1)).bind fun r10 =>
 some (.inl (x.1,x.2.1,s.1,r10,p.1,(IntKind.wrap .i64 (p.2.1+1)),q.1,q.2.1,q.2.2))
 else
 some (.inr (x.1,x.2.1,s.1,s.2.1,q.1,q.2.1,q.2.2))
 else
 none
 else
 some (.inr (x.1,x.2.1,s.1,s.2.1,q.1,q.2.1,q.2.2))
def Z9g:Ctx:=mC [(47,[],Zkk)] [] 49 0
theorem Z6p:CSound Tryz.prog ⟨49,0,true⟩ (.loop (loopOf 11 Tryz.f44)) (pieceSpec Zda Zc8 (loop Z6o)) :=
 tL Z9g 11 Tryz.f44 ⟨Z25,trivial⟩
abbrev Zdc:Shape:=⟨sl_24,bl_9,ts_21,0⟩
abbrev Zca:List (ETag × Shape):=[(.exit 2,⟨[(0,(.hole y1)),(1,(.hole y36)),(5,(.sl 0)),(6,(.hole (.int .i64))),(7,(.hole .bool))],bl_9,[y1,y36,(.int .i64),.bool,y1],0⟩)]
def Z6s (x:T44):Option (T44 ⊕ (List Int × List (T20) × Int × Bool × List Int)) :=
 let p:=x.2.2.2;
 bif (decide (p.2.2.1 < p.2.1)) then
 (loop Z6o (x.1,x.2.1,x.2.2.1,p.1,p.2.2.1,0,p.2.1,p.2.2.1,p.2.2.2)).bind fun r9 =>
 let q:=r9.2.2.2;
 some (.inl (r9.1,r9.2.1,r9.2.2.1,q.1,q.2.1,(IntKind.wrap .i64 (q.2.2.1+1)),q.2.2.2))
 else
 some (.inr (x.1,x.2.1,x.2.2.1,p.1,p.2.2.2))
def Z9i:Ctx:=mC [(47,[],Zkk)] [(0,11,pieceSpec Zda Zc8 (loop Z6o))] 49 0
theorem Z6t:CSound Tryz.prog ⟨49,0,true⟩ (.loop (loopOf 8 Tryz.f44)) (pieceSpec Zdc Zca (loop Z6s)) :=
 tL Z9i 8 Tryz.f44 ⟨Z25,trivial⟩ ⟨(pL 11 Tryz.f44 Z6p),trivial⟩
abbrev Zdb:Shape:=⟨[(0,(.hole y1)),(1,(.hole y36)),(5,(.sl 0)),(6,(.hole (.int .i64)))],bl_9,[y1,y36,(.int .i64),y1],0⟩
abbrev Zc9:List (ETag × Shape):=[(.exit 0,⟨[(5,(.sl 0))],bl_9,[y1],0⟩)]
def Z6q (x:(List Int × List (T20) × Int × List Int)):Option ((List Int × List (T20) × Int × List Int) ⊕ (List Int)) :=
 bif (decide (x.2.2.1 < 4)) then
 (loop Z6s (x.1,x.2.1,x.2.2.1,false,(((List.length x.2.1):Nat):Int),0,x.2.2.2)).bind fun r8 =>
 let p:=r8.2.2;
 bif p.2.1 then
 bif (fits ((List.length p.2.2)+(List.length (p.1 :: ([]:List Int))))) then
 some (.inl (r8.1,r8.2.1,(IntKind.wrap .i64 (p.1+1)),(p.2.2++(p.1 :: ([]:List Int)))))
 else
 none
 else
 some (.inl (r8.1,r8.2.1,(IntKind.wrap .i64 (p.1+1)),p.2.2))
 else
 some (.inr x.2.2.2)
def Z9h:Ctx:=mC [(47,[],Zkk)] [(0,11,pieceSpec Zda Zc8 (loop Z6o)),(0,8,pieceSpec Zdc Zca (loop Z6s))] 49 0
theorem Z6r:CSound Tryz.prog ⟨49,0,true⟩ (.loop (loopOf 4 Tryz.f44)) (pieceSpec Zdb Zc9 (loop Z6q)) :=
 tL Z9h 4 Tryz.f44 ⟨Z25,trivial⟩ ⟨(pL 11 Tryz.f44 Z6p),(pL 8 Tryz.f44 Z6t),trivial⟩
abbrev Zey:Shape:=⟨sl_9,[],[y1,y36],0⟩
abbrev Zhs:Shape:=⟨sl_11,[],[y1],0⟩
def Z26 (x:T36):Option (List Int) :=
 (loop Z6q (x.1,x.2,0,([]:List Int))).bind fun r7 =>
 some r7
abbrev Zkl:=Spec.shp Zey Zhs Z26
def Z9f:Ctx:=mC [(47,[],Zkk)] [(0,11,pieceSpec Zda Zc8 (loop Z6o)),(0,8,pieceSpec Zdc Zca (loop Z6s)),(0,4,pieceSpec Zdb Zc9 (loop Z6q))] 49 0
theorem Z27:Sound Tryz.prog 44 (Zkl) :=
 tS Z9f Tryz.f44 ⟨Z25,trivial⟩ ⟨(pL 11 Tryz.f44 Z6p),(pL 8 Tryz.f44 Z6t),(pL 4 Tryz.f44 Z6r),trivial⟩
abbrev Zdg:Shape:=⟨[(0,(.hole y1)),(1,(.hole y36)),(5,(.hole (.int .i64))),(6,(.hole (.int .i64))),(8,(.hole (.int .i64))),(9,(.hole (.int .i64)))],[],[y1,y36,(.int .i64),(.int .i64),(.int .i64),(.int .i64)],0⟩
abbrev Zce:List (ETag × Shape):=[(.ret,⟨sl_3,[],ts_2,0⟩),(.exit 2,⟨sl_25,[],ts_16,0⟩)]
def Z70 (x:(List Int × List (T20) × Int × Int × Int × Int)):Option ((List Int × List (T20) × Int × Int × Int × Int) ⊕ ((Int) ⊕ T41)) :=
 let p:=x.2.2;
 bif (decide (p.2.1 < p.1)) then
 (Z24 (x.1,x.2.1,p.2.1,p.1)).bind fun r13 =>
 bif r13 then
 some (.inr (.inl p.1))
 else
 some (.inl (x.1,x.2.1,p.1,(IntKind.wrap .i64 (p.2.1+1)),p.2.2.1,p.2.2.2))
 else
 some (.inr (.inr (x.1,x.2.1,p.2.2.1,p.2.2.2)))
def Z9q:Ctx:=mC [(47,[],Zkk)] [] 24 0
theorem Z71:CSound Tryz.prog ⟨24,0,true⟩ (.loop (loopOf 6 Tryz.f86)) (pieceSpec Zdg Zce (loop Z70)) :=
 tL Z9q 6 Tryz.f86 ⟨Z25,trivial⟩
abbrev Zdf:Shape:=⟨sl_25,[],ts_16,0⟩
abbrev Zcd:List (ETag × Shape):=[(.ret,⟨sl_3,[],ts_2,0⟩),(.exit 0,⟨[],[],[],0⟩)]
def Z6y (x:T41):Option (T41 ⊕ ((Int) ⊕ Unit)) :=
 bif (decide (x.2.2.2 < x.2.2.1)) then
 (loop Z70 (x.1,x.2.1,x.2.2.2,0,x.2.2.1,x.2.2.2)).bind fun r12 =>
 match r12 with
 | .inl y13 =>
 some (.inr (.inl y13))
 | .inr y13 =>
 some (.inl (y13.1,y13.2.1,y13.2.2.1,(IntKind.wrap .i64 (y13.2.2.2+1))))
 else
 some (.inr (.inr ()))
def Z9p:Ctx:=mC [(47,[],Zkk)] [(0,6,pieceSpec Zdg Zce (loop Z70))] 24 0
theorem Z6z:CSound Tryz.prog ⟨24,0,true⟩ (.loop (loopOf 3 Tryz.f86)) (pieceSpec Zdf Zcd (loop Z6y)) :=
 tL Z9p 3 Tryz.f86 ⟨Z25,trivial⟩ ⟨(pL 6 Tryz.f86 Z71),trivial⟩
abbrev Zf2:Shape:=⟨sl_9,[],[y1,y36],0⟩
abbrev Zhw:Shape:=⟨sl_2,[],ts_2,0⟩
def Z2e (x:T36):Option (Int) :=
 (loop Z6y (x.1,x.2,(((List.length x.2):Nat):Int),0)).bind fun r11 =>
 match r11 with
 | .inl y12 =>
 some y12
 | .inr y12 =>
 some (Int.negSucc 0)
abbrev Zkp:=Spec.shp Zf2 Zhw Z2e
def Z9o:Ctx:=mC [(47,[],Zkk)] [(0,6,pieceSpec Zdg Zce (loop Z70)),(0,3,pieceSpec Zdf Zcd (loop Z6y))] 24 0
theorem Z2f:Sound Tryz.prog 86 (Zkp) :=
 tS Z9o Tryz.f86 ⟨Z25,trivial⟩ ⟨(pL 6 Tryz.f86 Z71),(pL 3 Tryz.f86 Z6z),trivial⟩
abbrev Zde:Shape:=⟨[(0,(.hole y36)),(1,(.hole (.int .i64))),(2,(.hole (.int .i64))),(3,(.hole (.int .i64))),(9,(.hole (.int .i64))),(14,(.hole y36)),(15,(.hole (.int .i64))),(16,(.hole (.int .i64)))],[],[y36,(.int .i64),(.int .i64),(.int .i64),(.int .i64),y36,(.int .i64),(.int .i64)],0⟩
abbrev Zcc:List (ETag × Shape):=[(.exit 0,⟨[(9,(.hole (.int .i64)))],[],ts_2,0⟩)]
def Z6w (x:(List (T20) × Int × Int × Int × Int × List (T20) × Int × Int)):Option ((List (T20) × Int × Int × Int × Int × List (T20) × Int × Int) ⊕ (Int)) :=
 let v:=x.2.2;
 let s:=v.2;
 let u:=s.2.2.2;
 let q:=(getAt ((0:Int),(0:Int),(0:Int),(0:Int),(0:Int)) s.2.2.1 (toN u.2));
 let p:=(s.2.2.1,u.1,(IntKind.wrap .i64 (u.2+(1:Int))));
 bif (decide (u.2 < u.1)) then
 bif (inb u.2 (List.length s.2.2.1)) then
 bif (q.2.1 == v.1) then
 bif (inb x.2.1 (List.length x.1)) then
 bif (q.2.2.1 == (getAt (0,0,0,0,0) x.1 (toN x.2.1)).2.2.1) then
 bif (decide (s.1 < 0)) then
 some (.inl (x.1,x.2.1,v.1,s.1,u.2,p))
 else
 bif (q.1 == s.1) then
 some (.inl (x.1,x.2.1,v.1,s.1,u.2,p))
 else
 some (.inl (x.1,x.2.1,v.1,s.1,s.2.1,p))
 else
 some (.inl (x.1,x.2.1,v.1,s.1,s.2.1,p))
 else
 none
 else
 some (.inl (x.1,x.2.1,v.1,s.1,s.2.1,p))
 else
 none
 else
 some (.inr s.2.1)
def Z9n:Ctx:=mC [] [] 48 0
theorem Z6x:CSound Tryz.prog ⟨48,0,true⟩ (.loop (loopOf 4 Tryz.f122)) (pieceSpec Zde Zcc (loop Z6w)) :=
 tL Z9n 4 Tryz.f122 trivial
abbrev Zf1:Shape:=⟨sl_20,[],ts_19,0⟩
abbrev Zhv:Shape:=⟨sl_2,[],ts_2,0⟩
def Z2c (x:(List (T20) × Int × Int × Int)):Option (Int) :=
 bif (sub3 0 x.2.1 (List.length x.1)) then
 (loop Z6w (x.1,x.2.1,x.2.2.1,x.2.2.2,(Int.negSucc 0),(cut x.1 (toN 0) ((toN x.2.1) - (toN 0))),(((List.length (cut x.1 (toN 0) ((toN x.2.1) - (toN 0)))):Nat):Int),0)).bind fun r13 =>
 some r13
 else
 none
abbrev Zko:=Spec.shp Zf1 Zhv Z2c
def Z9m:Ctx:=mC [] [(0,4,pieceSpec Zde Zcc (loop Z6w))] 48 0
theorem Z2d:Sound Tryz.prog 122 (Zko) :=
 tS Z9m Tryz.f122 trivial ⟨(pL 4 Tryz.f122 Z6x),trivial⟩
abbrev Zdd:Shape:=⟨[(0,(.hole y1)),(1,(.hole y36)),(2,(.hole (.int .i64))),(8,(.hole (.int .i64)))],[],ts_16,0⟩
abbrev Zcb:List (ETag × Shape):=[(.ret,⟨[(6,(.hole (.int .i64)))],[],ts_2,0⟩),(.exit 0,⟨[],[],[],0⟩)]
def Z6u (x:T41):Option (T41 ⊕ ((Int) ⊕ Unit)) :=
 let p:=x.2.2;
 bif (decide (p.2 < 8)) then
 (Z2c (x.2.1,p.1,16,p.2)).bind fun r15 =>
 bif (decide (r15 ≥ 0)) then
 (Z24 (x.1,x.2.1,r15,p.1)).bind fun r16 =>
 bif r16 then
 some (.inr (.inl r15))
 else
 some (.inl (x.1,x.2.1,p.1,(IntKind.wrap .i64 (p.2+1))))
 else
 some (.inl (x.1,x.2.1,p.1,(IntKind.wrap .i64 (p.2+1))))
 else
 some (.inr (.inr ()))
def Z9l:Ctx:=mC [(122,[],Zko),(47,[],Zkk)] [] 41 0
theorem Z6v:CSound Tryz.prog ⟨41,0,true⟩ (.loop (loopOf 6 Tryz.f87)) (pieceSpec Zdd Zcb (loop Z6u)) :=
 tL Z9l 6 Tryz.f87 ⟨Z2d,Z25,trivial⟩
abbrev Zf0:Shape:=⟨sl_17,[],ts_17,0⟩
abbrev Zhu:Shape:=⟨sl_2,[],ts_2,0⟩
def Z2a (x:T38):Option (Int) :=
 (Z2c (x.2.1,x.2.2,17,(Int.negSucc 0))).bind fun r12 =>
 bif (decide (r12 ≥ 0)) then
 (Z24 (x.1,x.2.1,r12,x.2.2)).bind fun r13 =>
 bif r13 then
 some r12
 else
 (loop Z6u (x.1,x.2.1,x.2.2,0)).bind fun r14 =>
 match r14 with
 | .inl y15 =>
 some y15
 | .inr y15 =>
 some (Int.negSucc 0)
 else
 (loop Z6u (x.1,x.2.1,x.2.2,0)).bind fun r13 =>
 match r13 with
 | .inl y14 =>
 some y14
 | .inr y14 =>
 some (Int.negSucc 0)
abbrev Zkn:=Spec.shp Zf0 Zhu Z2a
def Z9k:Ctx:=mC [(122,[],Zko),(47,[],Zkk)] [(0,6,pieceSpec Zdd Zcb (loop Z6u))] 41 0
theorem Z2b:Sound Tryz.prog 87 (Zkn) :=
 tS Z9k Tryz.f87 ⟨Z2d,Z25,trivial⟩ ⟨(pL 6 Tryz.f87 Z6v),trivial⟩
abbrev Zew:Shape:=⟨sl_9,[],[y1,y36],0⟩
abbrev Zhq:Shape:=⟨[(0,(.hole y7)),(1,(.hole .bool))],[],[y7,.bool],0⟩
def Z22 (x:T36):Option (T7 × Bool) :=
 (Z2e (x.1,x.2)).bind fun r10 =>
 bif (decide (r10 < 0)) then
 some ((0,0,0),false)
 else
 (Z2a (x.1,x.2,r10)).bind fun r11 =>
 bif (inb r10 (List.length x.2)) then
 some ((r10,r11,(getAt (0,0,0,0,0) x.2 (toN r10)).2.2.1),true)
 else
 none
abbrev Zkj:=Spec.shp Zew Zhq Z22
def Z9d:Ctx:=mC [(86,[],Zkp),(87,[],Zkn)] [] 24 0
theorem Z23:Sound Tryz.prog 45 (Zkj) :=
 tS Z9d Tryz.f45 ⟨Z2f,Z2b,trivial⟩
abbrev Ze7:Shape:=⟨sl_10,[],ts_8,0⟩
abbrev Zh1:Shape:=⟨sl_1,[],ts_1,0⟩
def Zo (x:(Int × Int)):Option (Bool) :=
 bif (decide (x.1 ≥ 0)) then
 some (decide (x.1 < x.2))
 else
 some false
abbrev Zju:=Spec.shp Ze7 Zh1 Zo
def Z8a:Ctx:=mC [] [] 12 0
theorem Zp:Sound Tryz.prog 46 (Zju) :=
 tS Z8a Tryz.f46 trivial
def F_plaitlaw18_RaceTells (x:T41):Option (Bool) :=
 let w:=x.2.2;
 let v:=((0:Int),(0:Int),(0:Int));
 let p:=(cut x.1 (toN (0:Int)) ((toN (Min.min (((List.length x.1):Nat):Int) (6:Int))) - (toN (0:Int))));
 bif (sub3 0 (Min.min (((List.length x.1):Nat):Int) 6) (List.length x.1)) then
 (Zm x.2.1).bind fun r1 =>
 let u:=(p,r1,w.1,w.2);
 let s:=(((List.length r1):Nat):Int);
 (Z2g (p,r1)).bind fun r2 =>
 let q:=((r2.1.1 == v.1) && ((r2.1.2.1 == v.2.1) && (r2.1.2.2 == v.2.2)));
 (Z2i u).bind fun r3 =>
 (Z2k (p,r1)).bind fun r4 =>
 (Z1o (p,r1)).bind fun r5 =>
 bif (Bool.not r5) then
 (Zk ()).bind fun r6 =>
 bif r6 then
 bif (r2.2 == 1) then
 bif (r3.2 == 1) then
 bif (r4.2 == 1) then
 bif q then
 bif (Bool.not r3.1) then
 some ((((List.length r4.1):Nat):Int) == 0)
 else
 some false
 else
 some false
 else
 some false
 else
 some false
 else
 some false
 else
 some false
 else
 bif (r4.2 != 0) then
 some false
 else
 (Z26 (p,r1)).bind fun r6 =>
 (Zq (r4.1,r6)).bind fun r7 =>
 bif (Bool.not r7) then
 some false
 else
 (Zk ()).bind fun r8 =>
 bif (Bool.not r8) then
 some false
 else
 (Z22 (p,r1)).bind fun r9 =>
 bif r9.2 then
 bif (r2.2 != 0) then
 some false
 else
 bif (Bool.not ((r2.1.1 == r9.1.1) && ((r2.1.2.1 == r9.1.2.1) && (r2.1.2.2 == r9.1.2.2)))) then
 some false
 else
 bif (Bool.not r9.2) then
 bif (r2.2 != 4) then
 some false
 else
 bif (Bool.not q) then
 some false
 else
 (Zo (w.1,s)).bind fun r10 =>
 bif (Bool.not r10) then
 bif (r3.2 == 3) then
 some (Bool.not r3.1)
 else
 some false
 else
 (Zo (w.2,s)).bind fun r11 =>
 bif (Bool.not r11) then
 bif (r3.2 == 3) then
 some (Bool.not r3.1)
 else
 some false
 else
 bif (r3.2 == 0) then
 (Z24 u).bind fun r12 =>
 some (r3.1 == r12)
 else
 some false
 else
 (Zo (w.1,s)).bind fun r10 =>
 bif (Bool.not r10) then
 bif (r3.2 == 3) then
 some (Bool.not r3.1)
 else
 some false
 else
 (Zo (w.2,s)).bind fun r11 =>
 bif (Bool.not r11) then
 bif (r3.2 == 3) then
 some (Bool.not r3.1)
 else
 some false
 else
 bif (r3.2 == 0) then
 (Z24 u).bind fun r12 =>
 some (r3.1 == r12)
 else
 some false
 else
 bif (Bool.not r9.2) then
 bif (r2.2 != 4) then
 some false
 else
 bif (Bool.not q) then
 some false
 else
 (Zo (w.1,s)).bind fun r10 =>
 bif (Bool.not r10) then
 bif (r3.2 == 3) then
 some (Bool.not r3.1)
 else
 some false
 else
 (Zo (w.2,s)).bind fun r11 =>
 bif (Bool.not r11) then
 bif (r3.2 == 3) then
 some (Bool.not r3.1)
 else
 some false
 else
 bif (r3.2 == 0) then
 (Z24 u).bind fun r12 =>
 some (r3.1 == r12)
 else
 some false
 else
 (Zo (w.1,s)).bind fun r10 =>
 bif (Bool.not r10) then
 bif (r3.2 == 3) then
 some (Bool.not r3.1)
 else
 some false
 else
 (Zo (w.2,s)).bind fun r11 =>
 bif (Bool.not r11) then
 bif (r3.2 == 3) then
 some (Bool.not r3.1)
 else
 some false
 else
 bif (r3.2 == 0) then
 (Z24 u).bind fun r12 =>
 some (r3.1 == r12)
 else
 some false
 else
 none
def Z87:Ctx:=mC [(39,[],Zjt),(40,[],Zkq),(41,[],Zkr),(42,[],Zks),(26,[],Zkc),(43,[],Zjs),(44,[],Zkl),(28,[],Zjv),(45,[],Zkj),(46,[],Zju),(47,[],Zkk)] [] 149 0 true [] [(1,[0])]
theorem F_plaitlaw18_RaceTells_ok:Sound Tryz.prog 9 (Spec.pure [y1,y36,(.int .i64),(.int .i64)] [.bool] F_plaitlaw18_RaceTells) :=
 tP Z87 Tryz.f9 ⟨Zn,Z2h,Z2j,Z2l,Z1p,Zl,Z27,Zr,Z23,Zp,Z25,trivial⟩
end
end Go.Proofs.YtifbgkikkiallaaGreat.VX.VxZ_Z
set_option maxRecDepth 100000
namespace Go.Proofs.YtifbgkikkiallaaGreat.VX.VxZ_Z
open Go.Proofs Go.Proofs.YtifbgkikkiallaaGreat.VX.T2
noncomputable section
end
end Go.Proofs.YtifbgkikkiallaaGreat.VX.VxZ_Z
set_option maxRecDepth 100000
namespace Go.Proofs.YtifbgkikkiallaaGreat.VX.VxZ_Z
open Go.Proofs Go.Proofs.YtifbgkikkiallaaGreat.VX.T2
noncomputable section
end
end Go.Proofs.YtifbgkikkiallaaGreat.VX.VxZ_Z

