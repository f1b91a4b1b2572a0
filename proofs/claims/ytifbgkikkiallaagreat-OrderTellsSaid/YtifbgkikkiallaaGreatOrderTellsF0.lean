/- Laid for the law OrderTells. -/
import Derived.Test.YtifbgkikkiallaaGreatOrderTellsE15
import Derived.Test.YtifbgkikkiallaaGreatOrderTellsE18
import Derived.Test.YtifbgkikkiallaaGreatOrderTellsE19
set_option linter.unusedVariables false
set_option linter.unusedSimpArgs false
set_option maxRecDepth 100000
namespace Go.Proofs.YtifbgkikkiallaaGreat.VX.VxZ_Z
open Go.Proofs Go.Proofs.YtifbgkikkiallaaGreat.VX.T2
noncomputable section
theorem mixed:Tryz.prog.follows .mixedOrders=true:=by kernel_rfl
abbrev mC (fx:List (FuncId × List FuncId × Spec)) (sum:List (Nat × Nat × CSpec)) (nt pin:Nat) (nr:Bool:=true) (ys:List (Nat × List Nat × Spec):=[]) (rw:List (Nat × List Nat):=[]):Ctx:={ tb:=mkTb T2.tbl,fx:=fx,sum:=sum,nt:=nt,pin:=pin,nr:=nr,ys:=ys,rw:=rw }
theorem tS (C:Ctx) (fn:Func) {f:FuncId} {sh ro:Shape} {F:HL sh.ts→Option (HL ro.ts)} (hx:FxAll Tryz.prog C.fx) (hs:SumAll Tryz.prog C.ek (bodyOf fn) C.sum:=by trivial) (hy:YsAll Tryz.prog C.ys:=by trivial) (h1:Tryz.prog.funcs[f]?=some fn:=by kernel_rfl) (h2:fn.body=some (bodyOf fn):=by kernel_rfl) (h3:fn.name ≠ "runtime.NumGoroutine":=by decide) (h4:C.tb=mkTb T2.tbl:=by rfl) (h5:∀ (R:Type) f cl args m N k kp,C.miss (R:=R) f cl args m N k kp=none:=by intros; rfl) (h6:fn.ntmps=C.nt:=by kernel_rfl) (h7:ro.pin=C.pin:=by rfl) (h8:C.pin ≤ sh.bl.length:=by decide) (h9:C.pin ≤ ro.bl.length:=by decide) (h10:sh.pin=0:=by rfl) (h11:sh.sl.length ≤ C.nt:=by decide) (h12:seqK 0 ro.sl=true:=by rfl) (h13:∀ x,exec C (bodyOf fn) (sh.fr x) (sh.mem x) sh.bl.length (retS C fn.results.toList ro)=F x:=by intro x; kernel_rfl):Sound Tryz.prog f (Spec.shp sh ro F) :=
 Sound.shp h1 h2 h3 (ctxOK mixed tbl_ok h4 hx hy h5) (SumOK.of hs) h6 sh ro h7 h8 h9 h10 h11 h12 F h13
theorem tL (C:Ctx) (n:Nat) (fn:Func) {sh:Shape} {es:List (ETag × Shape)} {F:HL sh.ts→Option (HL sh.ts ⊕ YT es)} (hx:FxAll Tryz.prog C.fx) (hs:SumAll Tryz.prog C.ek (loopOf n fn) C.sum:=by trivial) (hy:YsAll Tryz.prog C.ys:=by trivial) (h4:C.tb=mkTb T2.tbl:=by rfl) (h5:∀ (R:Type) f cl args m N k kp,C.miss (R:=R) f cl args m N k kp=none:=by intros; rfl) (h6:sh.pin=C.pin:=by rfl) (h7:pinsOK C.pin es=true:=by rfl) (h8:∀ x,exec C (loopOf n fn) (sh.fr x) (sh.mem x) sh.bl.length (loopK sh es)=F x:=by intro x; kernel_rfl):CSound Tryz.prog C.ek (.loop (loopOf n fn)) (pieceSpec sh es (loop F)) :=
 loop_sound (ctxOK mixed tbl_ok h4 hx hy h5) (SumOK.of hs) sh es h6 h7 F h8
theorem tP (C:Ctx) (fn:Func) {f:FuncId} {ts rs:List Ty} {F:HL ts→Option (HL rs)} (hx:FxAll Tryz.prog C.fx) (hs:SumAll Tryz.prog C.ek (bodyOf fn) C.sum:=by trivial) (hy:YsAll Tryz.prog C.ys:=by trivial) (h1:Tryz.prog.funcs[f]?=some fn:=by kernel_rfl) (h2:fn.body=some (bodyOf fn):=by kernel_rfl) (h3:fn.name ≠ "runtime.NumGoroutine":=by decide) (h4:C.tb=mkTb T2.tbl:=by rfl) (h5:∀ (R:Type) f cl args m N k kp,C.miss (R:=R) f cl args m N k kp=none:=by intros; rfl) (h6:fn.ntmps=C.nt:=by kernel_rfl) (h7:C.pin=0:=by rfl) (h8:ts.length ≤ C.nt:=by decide) (h9:∀ x,exec C (bodyOf fn) (initFr 0 (ofHL ts x)) [] 0 (retK C fn.results.toList rs)=F x:=by intro x; kernel_rfl):Sound Tryz.prog f (Spec.pure ts rs F) :=
 Sound.pure h1 h2 h3 (ctxOK mixed tbl_ok h4 hx hy h5) (SumOK.of hs) h6 h7 ts rs h8 F h9
theorem pL (n:Nat) (fn:Func) {c:Code} {k:EK} {s:CSpec} (h:CSound Tryz.prog k (.loop (loopOf n fn)) s) (e:pieces 0 n c=[.loop (loopOf n fn)]:=by kernel_rfl):∀ d ∈ pieces 0 n c,CSound Tryz.prog k d s:=pieces_one e h
theorem pR (n:Nat) (fn:Func) {c:Code} {k:EK} {s:CSpec} (h:CSound Tryz.prog k (rfOf n fn) s) (e:pieces 3 n c=[rfOf n fn]:=by kernel_rfl):∀ d ∈ pieces 3 n c,CSound Tryz.prog k d s:=pieces_one e h
theorem pN {t n:Nat} {c:Code} {k:EK} {s:CSpec} (e:pieces t n c=[]:=by kernel_rfl):∀ d ∈ pieces t n c,CSound Tryz.prog k d s:=pieces_none e
abbrev T0:=Int × Bool
abbrev T1:=Bool × Int
abbrev T2:=Int × List Int
abbrev T3:=List Int × Int
abbrev T4:=Int × Int × Int
abbrev T5:=List (Int × Int)
abbrev T7:=Int × (Int × Int)
abbrev T8:=(Int × Int) × Int
abbrev T9:=List Int × List Int
abbrev T10:=List Int × Int × Int
abbrev T11:=List (List Int) × List Int
abbrev T12:=Int × List Int × Int × Int
abbrev T14:=List Int × Int × Int × List Int
abbrev T15:=List Int × List Int × Int × Int
abbrev T20:=Int × (Int × T7)
abbrev T21:=(Int × T0) × Int
abbrev T29:=Int × List Int × List Int × Int × List (T8) × List (Int × Int) × List (Int × Int)
abbrev T30:=Bool × List Int × List Int × Int × List (T8) × List (Int × Int) × List (Int × Int)
abbrev T32:=List (T20) × Int
abbrev T36:=List Int × List (T20)
abbrev T38:=List Int × List (T20) × Int
abbrev T41:=List Int × List (T20) × Int × Int
abbrev T42:=Int × Int × Int × List (T20) × Int × Int
abbrev T43:=List Int × List (T20) × Int × Int × List Int
abbrev T44:=List Int × List (T20) × Int × Bool × Int × Int × List Int
abbrev T45:=T20 × List Int × List Int × Int × List (T8) × List (Int × Int) × List (Int × Int)
abbrev T46:=List (T20) × T20 × List Int × List Int × Int × List (T8) × List (Int × Int) × List (Int × Int)
abbrev y0:Ty:=.slice .bool
abbrev y1:Ty:=.slice (.int .i64)
abbrev y2:Ty:=.arr 8 (.int .i64)
abbrev y3:Ty:=.arr 16 (.int .i64)
abbrev y4:Ty:=.pair (.int .i64) .bool
abbrev y5:Ty:=.pair .bool (.int .i64)
abbrev y6:Ty:=.pair (.int .i64) (.int .i64)
abbrev y7:Ty:=.pair (.int .i64) y6
abbrev y8:Ty:=.pair y6 (.int .i64)
abbrev y9:Ty:=.pair (.int .i64) y4
abbrev y10:Ty:=.pair (.int .i64) y1
abbrev y11:Ty:=.pair (.slice y1) y1
abbrev y12:Ty:=.pair y6 (.arr 8 y6)
abbrev y13:Ty:=.pair y1 (.int .i64)
abbrev y14:Ty:=.pair (.slice y5) .bool
abbrev y15:Ty:=.slice y10
abbrev y16:Ty:=.arr 4 y12
abbrev y17:Ty:=.slice y14
abbrev y19:Ty:=.pair (.int .i64) y7
abbrev y20:Ty:=.pair y9 (.int .i64)
abbrev y21:Ty:=.pair (.int .i64) y9
abbrev y27:Ty:=.slice y20
abbrev y31:Ty:=.pair (.int .i64) y19
abbrev y36:Ty:=.slice y31
abbrev bl_0:List BPat:=[.var (.pr (.hole y1) (.pr (.mp 1) (.pr (.hole y2) (.pr (.hole (.int .i64)) (.pr (.mp 2) (.pr (.mp 3) (.mp 4))))))),.mp y6 (.int .i64),.mp (.int .i64) (.int .i64),.mp (.int .i64) (.int .i64),.fm [1,3,5,6,7,11,12,14,15] (.cons (.fn 156 .nil (.cons (.ptr 5 []) .nil)) (.cons (.fn 157 .nil (.cons (.ptr 5 []) .nil)) (.cons (.fn 159 .nil (.cons (.ptr 5 []) .nil)) (.cons (.fn 160 .nil (.cons (.ptr 5 []) .nil)) (.cons (.fn 161 .nil (.cons (.ptr 5 []) .nil)) (.cons (.fn 162 .nil (.cons (.ptr 6 []) .nil)) (.cons (.fn 163 .nil (.cons (.ptr 6 []) .nil)) (.cons (.fn 164 .nil (.cons (.ptr 5 []) .nil)) (.cons (.fn 165 .nil (.cons (.ptr 5 []) .nil)) .nil))))))))),.var (.ptr 0 []),.var (.fn 154 .nil (.cons (.ptr 5 []) .nil))]
abbrev bl_1:List BPat:=[.var (.ptr 1 []),.var (.pr (.hole y1) (.pr (.mp 2) (.pr (.hole y2) (.pr (.hole (.int .i64)) (.pr (.mp 3) (.pr (.mp 4) (.mp 5))))))),.mp y6 (.int .i64),.mp (.int .i64) (.int .i64),.mp (.int .i64) (.int .i64),.fm [1,3,5,6,7,11,12,14,15] (.cons (.fn 156 .nil (.cons (.ptr 0 []) .nil)) (.cons (.fn 157 .nil (.cons (.ptr 0 []) .nil)) (.cons (.fn 159 .nil (.cons (.ptr 0 []) .nil)) (.cons (.fn 160 .nil (.cons (.ptr 0 []) .nil)) (.cons (.fn 161 .nil (.cons (.ptr 0 []) .nil)) (.cons (.fn 162 .nil (.cons (.ptr 6 []) .nil)) (.cons (.fn 163 .nil (.cons (.ptr 6 []) .nil)) (.cons (.fn 164 .nil (.cons (.ptr 0 []) .nil)) (.cons (.fn 165 .nil (.cons (.ptr 0 []) .nil)) .nil))))))))),.var (.fn 154 .nil (.cons (.ptr 0 []) .nil))]
abbrev bl_2:List BPat:=[.var (.fn 154 .nil (.cons (.ptr 1 []) .nil)),.var (.ptr 2 []),.var (.pr (.hole y1) (.pr (.mp 3) (.pr (.hole y2) (.pr (.hole (.int .i64)) (.pr (.mp 4) (.pr (.mp 5) (.mp 6))))))),.mp y6 (.int .i64),.mp (.int .i64) (.int .i64),.mp (.int .i64) (.int .i64),.fm [1,3,5,6,7,11,12,14,15] (.cons (.fn 156 .nil (.cons (.ptr 1 []) .nil)) (.cons (.fn 157 .nil (.cons (.ptr 1 []) .nil)) (.cons (.fn 159 .nil (.cons (.ptr 1 []) .nil)) (.cons (.fn 160 .nil (.cons (.ptr 1 []) .nil)) (.cons (.fn 161 .nil (.cons (.ptr 1 []) .nil)) (.cons (.fn 162 .nil (.cons (.ptr 0 []) .nil)) (.cons (.fn 163 .nil (.cons (.ptr 0 []) .nil)) (.cons (.fn 164 .nil (.cons (.ptr 1 []) .nil)) (.cons (.fn 165 .nil (.cons (.ptr 1 []) .nil)) .nil)))))))))]
abbrev bl_3:List BPat:=[.var (.pr (.hole y1) (.pr (.mp 1) (.pr (.mp 2) (.pr (.mp 3) (.pr (.mp 4) (.mp 5)))))),.mp y9 (.int .i64),.mp (.int .i64) (.int .i64),.mp (.int .i64) (.int .i64),.mo (.int .i64) (.int .i64),.mp (.int .i64) (.int .i64)]
abbrev bl_4:List BPat:=[.var (.sl 1),.row (.int .i64)]
abbrev bl_5:List BPat:=[.lpt 983052 [12] (.cons (.ptr 4 []) .nil),.var (.ptr 5 []),.var (.hole y31),.var (.hole (.int .i64)),.var (.sl 11),.var (.pr (.hole y1) (.pr (.mp 6) (.pr (.mp 7) (.pr (.mp 8) (.pr (.mp 9) (.mp 10)))))),.mp y9 (.int .i64),.mp (.int .i64) (.int .i64),.mp (.int .i64) (.int .i64),.mo (.int .i64) (.int .i64),.mp (.int .i64) (.int .i64),.row (.int .i64)]
abbrev bl_6:List BPat:=[.lp 983052 [12] (.cons (.ptr 4 []) .nil),.var (.ptr 5 []),.var (.hole y31),.var (.hole (.int .i64)),.var (.sl 11),.var (.pr (.hole y1) (.pr (.mp 6) (.pr (.mp 7) (.pr (.mp 8) (.pr (.mp 9) (.mp 10)))))),.mp y9 (.int .i64),.mp (.int .i64) (.int .i64),.mp (.int .i64) (.int .i64),.mo (.int .i64) (.int .i64),.mp (.int .i64) (.int .i64),.row (.int .i64)]
abbrev bl_7:List BPat:=[.var (.fn 115 .nil .nil)]
abbrev bl_8:List BPat:=[.var (.fn 70 .nil .nil)]
abbrev bl_9:List BPat:=[.row (.int .i64)]
abbrev bl_10:List BPat:=[.var (.pr .nl .nl),.var (.pr (.hole (.slice y1)) (.sl 2)),.row (.int .i64)]
abbrev bl_11:List BPat:=[.var (.hole y11),.row (.int .i64)]
abbrev ts_0:List Ty:=[(.int .i64),(.int .i64),(.int .i64)]
abbrev ts_1:List Ty:=[.bool]
abbrev ts_2:List Ty:=[(.int .i64)]
abbrev ts_3:List Ty:=[y1,(.int .i64),(.int .i64)]
abbrev ts_4:List Ty:=[y36,y31,y1,y2,(.int .i64),(.slice y8),(.slice y6),(.slice y6)]
abbrev ts_5:List Ty:=[.bool,y1,y2,(.int .i64),(.slice y8),(.slice y6),(.slice y6)]
abbrev ts_6:List Ty:=[(.int .i64),y1,y2,(.int .i64),(.slice y8),(.slice y6),(.slice y6)]
abbrev ts_7:List Ty:=[y31,y1,y2,(.int .i64),(.slice y8),(.slice y6),(.slice y6)]
abbrev ts_8:List Ty:=[(.int .i64),(.int .i64)]
abbrev ts_9:List Ty:=[y1,y27,(.slice y6),(.slice y6),y15,(.slice y6)]
abbrev ts_10:List Ty:=[(.int .i64),y31,y1,y27,(.slice y6),(.slice y6),y15,(.slice y6)]
abbrev ts_11:List Ty:=[(.int .i64),y31,(.int .i64),y1,y27,(.slice y6),(.slice y6),y15,(.slice y6),y1]
abbrev ts_12:List Ty:=[y31,(.int .i64),y1,y27,(.slice y6),(.slice y6),y15,(.slice y6),y1]
abbrev ts_13:List Ty:=[y1,(.int .i64)]
abbrev ts_14:List Ty:=[.bool,(.int .i64)]
abbrev ts_15:List Ty:=[y1,y36,(.int .i64),(.int .i64)]
abbrev ts_16:List Ty:=[y1,y36,(.int .i64)]
abbrev ts_17:List Ty:=[(.int .i64),(.int .i64),(.int .i64),y36,(.int .i64),(.int .i64)]
abbrev ts_18:List Ty:=[y36,(.int .i64),(.int .i64),(.int .i64)]
abbrev ts_19:List Ty:=[y1,y36,(.int .i64),.bool,(.int .i64),(.int .i64),(.int .i64),y1]
abbrev ts_20:List Ty:=[y1,y36,(.int .i64),.bool,(.int .i64),(.int .i64),y1]
abbrev ts_21:List Ty:=[(.int .i64),y1,(.int .i64),(.int .i64)]
abbrev sl_0:List (Nat × Pat):=[(0,(.hole (.int .i64))),(1,(.hole (.int .i64))),(2,(.hole (.int .i64)))]
abbrev sl_1:List (Nat × Pat):=[(0,(.hole .bool))]
abbrev sl_2:List (Nat × Pat):=[(0,(.hole (.int .i64)))]
abbrev sl_3:List (Nat × Pat):=[(4,(.hole (.int .i64)))]
abbrev sl_4:List (Nat × Pat):=[(0,(.ptr 0 []))]
abbrev sl_5:List (Nat × Pat):=[(0,(.ptr 0 [])),(1,(.hole y36)),(2,(.hole y31))]
abbrev sl_6:List (Nat × Pat):=[(0,(.ptr 0 [])),(1,(.hole (.int .i64)))]
abbrev sl_7:List (Nat × Pat):=[(0,(.hole y31)),(1,(.ptr 0 []))]
abbrev sl_8:List (Nat × Pat):=[(0,(.ptr 0 [])),(1,(.hole (.int .i64))),(2,(.hole y31))]
abbrev sl_9:List (Nat × Pat):=[(0,(.hole y1)),(1,(.hole y36))]
abbrev sl_10:List (Nat × Pat):=[(0,(.hole (.int .i64))),(1,(.hole (.int .i64)))]
abbrev sl_11:List (Nat × Pat):=[(0,(.hole y1))]
abbrev sl_12:List (Nat × Pat):=[(0,(.hole (.slice y1))),(1,(.fn 113 .nil (.cons (.ptr 0 []) .nil)))]
abbrev sl_13:List (Nat × Pat):=[(6,(.ptr 0 [])),(16,(.hole y1)),(17,(.hole (.int .i64))),(18,(.hole (.int .i64)))]
abbrev sl_14:List (Nat × Pat):=[(0,(.hole y1)),(1,(.hole (.int .i64)))]
abbrev sl_15:List (Nat × Pat):=[(0,(.hole .bool)),(1,(.hole (.int .i64)))]
abbrev sl_16:List (Nat × Pat):=[(0,(.hole y1)),(1,(.hole y36)),(2,(.hole (.int .i64))),(3,(.hole (.int .i64)))]
abbrev sl_17:List (Nat × Pat):=[(0,(.hole y1)),(1,(.hole y36)),(2,(.hole (.int .i64)))]
abbrev sl_18:List (Nat × Pat):=[(1,(.hole y36)),(6,(.ptr 0 [])),(8,(.sl 1)),(21,(.hole (.int .i64))),(22,(.hole (.int .i64)))]
abbrev sl_19:List (Nat × Pat):=[(0,(.hole y36)),(1,(.hole (.int .i64)))]
abbrev sl_20:List (Nat × Pat):=[(0,(.hole y36)),(1,(.hole (.int .i64))),(2,(.hole (.int .i64))),(3,(.hole (.int .i64)))]
abbrev sl_21:List (Nat × Pat):=[(0,(.hole y1)),(1,(.hole y36)),(2,(.hole (.int .i64))),(7,(.sl 0)),(8,(.hole (.int .i64)))]
abbrev sl_22:List (Nat × Pat):=[(0,(.hole y1)),(1,(.hole y36)),(5,(.sl 0)),(6,(.hole (.int .i64))),(7,(.hole .bool)),(8,(.hole (.int .i64))),(13,(.hole (.int .i64))),(14,(.hole (.int .i64)))]
abbrev Zcd:Shape:=⟨[(0,(.hole y36))],[],[y36],0⟩
abbrev Zet:Shape:=⟨[(0,(.hole y36))],[],[y36],0⟩
def Z10 (x:(List (T20))):Option (List (T20)) :=
 bif (sub3 (0:Int) (Min.min (((List.length x):Nat):Int) (60:Int)) (List.length x)) then
 some (cut x (toN (0:Int)) ((toN (Min.min (((List.length x):Nat):Int) (60:Int))) - (toN (0:Int))))
 else
 none
abbrev Zh8:=Spec.shp Zcd Zet Z10
def Z7g:Ctx:=mC [] [] 8 0
theorem Z11:Sound Tryz.prog 21 (Zh8) :=
 tS Z7g Tryz.f21 trivial
abbrev Zdg:Shape:=⟨sl_0,[],ts_0,0⟩
abbrev Zfw:Shape:=⟨sl_1,[],ts_1,0⟩
def Z36 (x:T4):Option (Bool) :=
 bif (decide (x.1 ≥ x.2.1)) then
 some (decide (x.1 ≤ x.2.2))
 else
 some false
abbrev Zib:=Spec.shp Zdg Zfw Z36
def Z96:Ctx:=mC [] [] 15 0
theorem Z37:Sound Tryz.prog 101 (Zib) :=
 tS Z96 Tryz.f101 trivial
abbrev Zdf:Shape:=⟨sl_2,[],ts_2,0⟩
abbrev Zfv:Shape:=⟨sl_1,[],ts_1,0⟩
def Z33 (x:(Int)):Option (Bool) :=
 (Z36 (x,(Int.negSucc 0),(3:Int))).bind fun r11 =>
 some (Bool.not r11)
abbrev Zia:=Spec.shp Zdf Zfv Z33
def Z94:Ctx:=mC [(101,[],Zib)] [] 6 0
theorem Z34:Sound Tryz.prog 100 (Zia) :=
 tS Z94 Tryz.f100 ⟨Z37,trivial⟩
abbrev Zbo:Shape:=⟨[(0,(.hole y1)),(1,(.fn 100 .nil .nil)),(7,(.hole (.int .i64))),(8,(.hole (.int .i64)))],[],ts_3,0⟩
abbrev Zas:List (ETag × Shape):=[(.ret,⟨sl_3,[],ts_2,0⟩),(.exit 0,⟨[],[],[],0⟩)]
def Z6c (x:T10):Option (T10 ⊕ ((Int) ⊕ Unit)) :=
 bif (decide (x.2.2 < x.2.1)) then
 bif (inb x.2.2 (List.length x.1)) then
 (Z33 (getAt (0:Int) x.1 (toN x.2.2))).bind fun r10 =>
 bif r10 then
 some (.inr (.inl x.2.2))
 else
 some (.inl (x.1,x.2.1,(IntKind.wrap .i64 (x.2.2+(1:Int)))))
 else
 none
 else
 some (.inr (.inr ()))
def Z8v:Ctx:=mC [(100,[],Zia)] [] 19 0
theorem Z6d:CSound Tryz.prog ⟨19,0,true⟩ (.loop (loopOf 3 Tryz.f126)) (pieceSpec Zbo Zas (loop Z6c)) :=
 tL Z8v 3 Tryz.f126 ⟨Z34,trivial⟩
abbrev Zd9:Shape:=⟨[(0,(.hole y1)),(1,(.fn 100 .nil .nil))],[],[y1],0⟩
abbrev Zfp:Shape:=⟨sl_2,[],ts_2,0⟩
def Z2s (x:(List Int)):Option (Int) :=
 (loop Z6c (x,(((List.length x):Nat):Int),(0:Int))).bind fun r9 =>
 match r9 with
 | .inl y10 =>
 some y10
 | .inr y10 =>
 some (Int.negSucc 0)
abbrev Zi4:=Spec.shp Zd9 Zfp Z2s
def Z8u:Ctx:=mC [(100,[],Zia)] [(0,3,pieceSpec Zbo Zas (loop Z6c))] 19 0
theorem Z2t:Sound Tryz.prog 126 (Zi4) :=
 tS Z8u Tryz.f126 ⟨Z34,trivial⟩ ⟨(pL 3 Tryz.f126 Z6d),trivial⟩
abbrev Zd6:Shape:=⟨[(0,(.hole y1)),(1,(.fn 100 .nil .nil))],[],[y1],0⟩
abbrev Zfm:Shape:=⟨sl_1,[],ts_1,0⟩
def Z2m (x:(List Int)):Option (Bool) :=
 (Z2s x).bind fun r8 =>
 some (decide (r8 ≥ (0:Int)))
abbrev Zi1:=Spec.shp Zd6 Zfm Z2m
def Z8q:Ctx:=mC [(126,[100],Zi4)] [] 9 0
theorem Z2n:Sound Tryz.prog 92 (Zi1) :=
 tS Z8q Tryz.f92 ⟨Z2t,trivial⟩
abbrev Zdz:Shape:=⟨[],[],[],0⟩
abbrev Zgf:Shape:=⟨[(0,(.mp 0))],[.mp (.int .i64) (.int .i64)],[(.slice y6)],0⟩
def Z4a (x:Unit):Option T5 :=
 some (@mput (Int) (Int) (Ty.beq (.int .i64)) (15:Int) (13:Int) (@mput (Int) (Int) (Ty.beq (.int .i64)) (11:Int) (10:Int) (@mput (Int) (Int) (Ty.beq (.int .i64)) (9:Int) (8:Int) (@mput (Int) (Int) (Ty.beq (.int .i64)) (6:Int) (4:Int) (@mput (Int) (Int) (Ty.beq (.int .i64)) (5:Int) (4:Int) (@mput (Int) (Int) (Ty.beq (.int .i64)) (3:Int) (2:Int) ([]:List (Int × Int))))))))
abbrev Ziu:=Spec.shp Zdz Zgf Z4a
def Z9p:Ctx:=mC [] [] 3 0
theorem Z4b:Sound Tryz.prog 102 (Ziu) :=
 tS Z9p Tryz.f102 trivial
abbrev Zdo:Shape:=⟨sl_4,[.var (.pr (.hole y1) (.pr (.mp 1) (.pr (.hole y2) (.pr (.hole (.int .i64)) (.pr (.mp 2) (.pr (.mp 3) .nilm)))))),.mp y6 (.int .i64),.mp (.int .i64) (.int .i64),.mp (.int .i64) (.int .i64)],[y1,y2,(.int .i64),(.slice y8),(.slice y6),(.slice y6)],0⟩
abbrev Zg4:Shape:=⟨[(0,(.mp 4))],[.var (.pr (.hole y1) (.pr (.mp 1) (.pr (.hole y2) (.pr (.hole (.int .i64)) (.pr (.mp 2) (.pr (.mp 3) .nilm)))))),.mp y6 (.int .i64),.mp (.int .i64) (.int .i64),.mp (.int .i64) (.int .i64),.fm [1,3,5,6,7,11,12,14,15] (.cons (.fn 156 .nil (.cons (.ptr 5 []) .nil)) (.cons (.fn 157 .nil (.cons (.ptr 5 []) .nil)) (.cons (.fn 159 .nil (.cons (.ptr 5 []) .nil)) (.cons (.fn 160 .nil (.cons (.ptr 5 []) .nil)) (.cons (.fn 161 .nil (.cons (.ptr 5 []) .nil)) (.cons (.fn 162 .nil (.cons (.ptr 6 []) .nil)) (.cons (.fn 163 .nil (.cons (.ptr 6 []) .nil)) (.cons (.fn 164 .nil (.cons (.ptr 5 []) .nil)) (.cons (.fn 165 .nil (.cons (.ptr 5 []) .nil)) .nil))))))))),.var (.ptr 0 []),.var (.fn 154 .nil (.cons (.ptr 5 []) .nil))],[y1,y2,(.int .i64),(.slice y8),(.slice y6),(.slice y6)],4⟩
def Z3n (x:(List Int × List Int × Int × List (T8) × List (Int × Int) × List (Int × Int))):Option (List Int × List Int × Int × List (T8) × List (Int × Int) × List (Int × Int)) :=
 some (x.1,x.2.1,x.2.2.1,x.2.2.2.1,x.2.2.2.2.1,x.2.2.2.2.2)
abbrev Zij:=Spec.shp Zdo Zg4 Z3n
def Z9e:Ctx:=mC [] [] 16 4
theorem Z49:Sound Tryz.prog 103 (Zij) :=
 tS Z9e Tryz.f103 trivial
abbrev Zdi:Shape:=⟨sl_5,bl_0,ts_4,0⟩
abbrev Zfy:Shape:=⟨sl_1,bl_0,ts_5,7⟩
def Z3a (x:T46):Option T30 :=
 bif (inb x.2.1.1 8) then
 bif (decide ((getAt (0:Int) x.2.2.2.1 (toN x.2.1.1)) > (0:Int))) then
 some (false,x.2.2.1,x.2.2.2.1,x.2.2.2.2.1,x.2.2.2.2.2.1,x.2.2.2.2.2.2.1,x.2.2.2.2.2.2.2)
 else
 bif (x.2.1.2.2.1 != (0:Int)) then
 some (false,x.2.2.1,x.2.2.2.1,x.2.2.2.2.1,x.2.2.2.2.2.1,x.2.2.2.2.2.2.1,x.2.2.2.2.2.2.2)
 else
 bif (x.2.1.2.2.2.1 != (0:Int)) then
 some (false,x.2.2.1,x.2.2.2.1,x.2.2.2.2.1,x.2.2.2.2.2.1,x.2.2.2.2.2.2.1,x.2.2.2.2.2.2.2)
 else
 bif (x.2.1.1 == (0:Int)) then
 some ((x.2.1.2.2.2.2 == (Int.negSucc 0)),x.2.2.1,x.2.2.2.1,x.2.2.2.2.1,x.2.2.2.2.2.1,x.2.2.2.2.2.2.1,x.2.2.2.2.2.2.2)
 else
 bif (x.2.1.2.2.2.2 != (Int.negSucc 0)) then
 bif (inb x.2.1.2.2.2.2 (List.length x.1)) then
 bif ((getAt ((0:Int),(0:Int),(0:Int),(0:Int),(0:Int)) x.1 (toN x.2.1.2.2.2.2)).2.1 == (1:Int)) then
 bif (inb x.2.1.2.2.2.2 (List.length x.1)) then
 some (((getAt ((0:Int),(0:Int),(0:Int),(0:Int),(0:Int)) x.1 (toN x.2.1.2.2.2.2)).2.2.1 == x.2.1.1),x.2.2.1,x.2.2.2.1,x.2.2.2.2.1,x.2.2.2.2.2.1,x.2.2.2.2.2.2.1,x.2.2.2.2.2.2.2)
 else
 none
 else
 some (false,x.2.2.1,x.2.2.2.1,x.2.2.2.2.1,x.2.2.2.2.2.1,x.2.2.2.2.2.2.1,x.2.2.2.2.2.2.2)
 else
 none
 else
 some (false,x.2.2.1,x.2.2.2.1,x.2.2.2.2.1,x.2.2.2.2.2.1,x.2.2.2.2.2.2.1,x.2.2.2.2.2.2.2)
 else
 none
abbrev Zid:=Spec.shp Zdi Zfy Z3a
def Z98:Ctx:=mC [] [] 54 7
theorem Z3b:Sound Tryz.prog 222 (Zid) :=
 tS Z98 Tryz.f222 trivial
abbrev Zdl:Shape:=⟨sl_6,bl_0,ts_6,0⟩
abbrev Zg1:Shape:=⟨sl_2,bl_0,ts_6,7⟩
def Z3h (x:T29):Option T29 :=
 (Z36 (x.1,(2:Int),(7:Int))).bind fun r17 =>
 bif r17 then
 some ((((List.length x.2.1):Nat):Int),x.2.1,x.2.2.1,x.2.2.2.1,x.2.2.2.2.1,x.2.2.2.2.2.1,x.2.2.2.2.2.2)
 else
 (Z36 (x.1,(10:Int),(15:Int))).bind fun r18 =>
 bif r18 then
 some ((2:Int),x.2.1,x.2.2.1,x.2.2.2.1,x.2.2.2.2.1,x.2.2.2.2.2.1,x.2.2.2.2.2.2)
 else
 (Z36 (x.1,(8:Int),(17:Int))).bind fun r19 =>
 bif r19 then
 some ((4:Int),x.2.1,x.2.2.1,x.2.2.2.1,x.2.2.2.2.1,x.2.2.2.2.2.1,x.2.2.2.2.2.2)
 else
 some ((1:Int),x.2.1,x.2.2.1,x.2.2.2.1,x.2.2.2.2.1,x.2.2.2.2.2.1,x.2.2.2.2.2.2)
abbrev Zig:=Spec.shp Zdl Zg1 Z3h
def Z9b:Ctx:=mC [(101,[],Zib)] [] 19 7
theorem Z3i:Sound Tryz.prog 223 (Zig) :=
 tS Z9b Tryz.f223 ⟨Z37,trivial⟩
abbrev Zdh:Shape:=⟨sl_5,bl_0,ts_4,0⟩
abbrev Zfx:Shape:=⟨sl_1,bl_0,ts_5,7⟩
def Z38 (x:T46):Option T30 :=
 bif (Bool.not (@mhas (Int) (Int) (Ty.beq (.int .i64)) x.2.1.2.1 x.2.2.2.2.2.2.2)) then
 some ((x.2.1.2.2.2.2 == (Int.negSucc 0)),x.2.2.1,x.2.2.2.1,x.2.2.2.2.1,x.2.2.2.2.2.1,x.2.2.2.2.2.2.1,x.2.2.2.2.2.2.2)
 else
 bif (x.2.1.2.2.2.2 == (Int.negSucc 0)) then
 some (false,x.2.2.1,x.2.2.2.1,x.2.2.2.2.1,x.2.2.2.2.2.1,x.2.2.2.2.2.2.1,x.2.2.2.2.2.2.2)
 else
 bif (inb x.2.1.1 8) then
 bif (x.2.1.2.2.2.2 != (IntKind.wrap .i64 ((getAt (0:Int) x.2.2.2.1 (toN x.2.1.1)) - (1:Int)))) then
 some (false,x.2.2.1,x.2.2.2.1,x.2.2.2.2.1,x.2.2.2.2.2.1,x.2.2.2.2.2.2.1,x.2.2.2.2.2.2.2)
 else
 bif (inb x.2.1.2.2.2.2 (List.length x.1)) then
 bif ((getAt ((0:Int),(0:Int),(0:Int),(0:Int),(0:Int)) x.1 (toN x.2.1.2.2.2.2)).2.1 == (@mlook (Int) (Int) (Ty.beq (.int .i64)) (Ty.zero (.int .i64)) x.2.1.2.1 x.2.2.2.2.2.2.2)) then
 bif ((getAt ((0:Int),(0:Int),(0:Int),(0:Int),(0:Int)) x.1 (toN x.2.1.2.2.2.2)).2.2.1 == x.2.1.2.2.1) then
 some (true,x.2.2.1,x.2.2.2.1,x.2.2.2.2.1,x.2.2.2.2.2.1,x.2.2.2.2.2.2.1,x.2.2.2.2.2.2.2)
 else
 bif ((getAt ((0:Int),(0:Int),(0:Int),(0:Int),(0:Int)) x.1 (toN x.2.1.2.2.2.2)).2.1 == (8:Int)) then
 some ((decide (x.2.1.2.1 ≤ (6:Int))),x.2.2.1,x.2.2.2.1,x.2.2.2.2.1,x.2.2.2.2.2.1,x.2.2.2.2.2.2.1,x.2.2.2.2.2.2.2)
 else
 some (false,x.2.2.1,x.2.2.2.1,x.2.2.2.2.1,x.2.2.2.2.2.1,x.2.2.2.2.2.2.1,x.2.2.2.2.2.2.2)
 else
 bif ((getAt ((0:Int),(0:Int),(0:Int),(0:Int),(0:Int)) x.1 (toN x.2.1.2.2.2.2)).2.1 == (8:Int)) then
 some ((decide (x.2.1.2.1 ≤ (6:Int))),x.2.2.1,x.2.2.2.1,x.2.2.2.2.1,x.2.2.2.2.2.1,x.2.2.2.2.2.2.1,x.2.2.2.2.2.2.2)
 else
 some (false,x.2.2.1,x.2.2.2.1,x.2.2.2.2.1,x.2.2.2.2.2.1,x.2.2.2.2.2.2.1,x.2.2.2.2.2.2.2)
 else
 none
 else
 none
abbrev Zic:=Spec.shp Zdh Zfx Z38
def Z97:Ctx:=mC [] [] 67 7
theorem Z39:Sound Tryz.prog 224 (Zic) :=
 tS Z97 Tryz.f224 trivial
abbrev Zdr:Shape:=⟨sl_7,bl_1,ts_7,0⟩
abbrev Zg7:Shape:=⟨sl_1,bl_1,ts_5,7⟩
def Z3s (x:T45):Option T30 :=
 some ((x.1.2.2.1 == x.2.2.2.1),x.2.1,x.2.2.1,x.2.2.2.1,x.2.2.2.2.1,x.2.2.2.2.2.1,x.2.2.2.2.2.2)
abbrev Zim:=Spec.shp Zdr Zg7 Z3s
def Z9h:Ctx:=mC [] [] 11 7
theorem Z3t:Sound Tryz.prog 156 (Zim) :=
 tS Z9h Tryz.f156 trivial
theorem Z3u:Sound Tryz.prog 156 (Spec.shpR Zdr Zg7 Z3s) :=
 Sound.shpR (fun x y h=>by have h:=Option.some.inj h; subst h; rfl) Z3t
abbrev Zdm:Shape:=⟨[(0,(.ptr 0 [])),(1,(.hole y31))],bl_0,ts_7,0⟩
abbrev Zg2:Shape:=⟨sl_1,bl_0,ts_5,7⟩
def Z3j (x:T45):Option T30 :=
 bif (inb x.1.2.2.1 (List.length x.2.1)) then
 some ((decide ((getAt (0:Int) x.2.1 (toN x.1.2.2.1)) ≥ (0:Int))),x.2.1,x.2.2.1,x.2.2.2.1,x.2.2.2.2.1,x.2.2.2.2.2.1,x.2.2.2.2.2.2)
 else
 none
abbrev Zih:=Spec.shp Zdm Zg2 Z3j
def Z9c:Ctx:=mC [] [] 14 7
theorem Z3k:Sound Tryz.prog 158 (Zih) :=
 tS Z9c Tryz.f158 trivial
abbrev Zdk:Shape:=⟨sl_8,bl_0,[(.int .i64),y31,y1,y2,(.int .i64),(.slice y8),(.slice y6),(.slice y6)],0⟩
abbrev Zg0:Shape:=⟨sl_2,bl_0,ts_6,7⟩
def Z3e (x:(Int × T20 × List Int × List Int × Int × List (T8) × List (Int × Int) × List (Int × Int))):Option T29 :=
 some ((@mlook (Int × Int) (Int) (Ty.beq y6) (Ty.zero (.int .i64)) (x.1,x.2.1.2.2.1) x.2.2.2.2.2.1),x.2.2.1,x.2.2.2.1,x.2.2.2.2.1,x.2.2.2.2.2.1,x.2.2.2.2.2.2.1,x.2.2.2.2.2.2.2)
abbrev Zif:=Spec.shp Zdk Zg0 Z3e
def Z9a:Ctx:=mC [] [] 16 7
theorem Z3f:Sound Tryz.prog 155 (Zif) :=
 tS Z9a Tryz.f155 trivial
theorem Z3g:Sound Tryz.prog 155 (Spec.shpR Zdk Zg0 Z3e) :=
 Sound.shpR (fun x y h=>by have h:=Option.some.inj h; subst h; rfl) Z3f
abbrev Zds:Shape:=⟨sl_7,bl_1,ts_7,0⟩
abbrev Zg8:Shape:=⟨sl_1,bl_1,ts_5,7⟩
def Z3v (x:T45):Option T30 :=
 (Z3j (x.1,x.2.1,x.2.2.1,x.2.2.2.1,x.2.2.2.2.1,x.2.2.2.2.2.1,x.2.2.2.2.2.2)).bind fun r20 =>
 bif r20.1 then
 (Z3e ((7:Int),x.1,r20.2.1,r20.2.2.1,r20.2.2.2.1,r20.2.2.2.2.1,r20.2.2.2.2.2.1,r20.2.2.2.2.2.2)).bind fun r21 =>
 bif (r21.1 == (0:Int)) then
 (Z3e ((3:Int),x.1,r20.2.1,r20.2.2.1,r20.2.2.2.1,r20.2.2.2.2.1,r20.2.2.2.2.2.1,r20.2.2.2.2.2.2)).bind fun r22 =>
 bif (x.1.2.2.2.1 == r22.1) then
 (Z3e ((5:Int),x.1,r20.2.1,r20.2.2.1,r20.2.2.2.1,r20.2.2.2.2.1,r20.2.2.2.2.2.1,r20.2.2.2.2.2.2)).bind fun r23 =>
 bif (inb x.1.2.2.1 (List.length r20.2.1)) then
 some ((decide (x.1.2.2.2.1 ≤ (IntKind.wrap .i64 (r23.1+(getAt (0:Int) r20.2.1 (toN x.1.2.2.1)))))),r20.2.1,r20.2.2.1,r20.2.2.2.1,r20.2.2.2.2.1,r20.2.2.2.2.2.1,r20.2.2.2.2.2.2)
 else
 none
 else
 some (false,r20.2.1,r20.2.2.1,r20.2.2.2.1,r20.2.2.2.2.1,r20.2.2.2.2.2.1,r20.2.2.2.2.2.2)
 else
 some (false,r20.2.1,r20.2.2.1,r20.2.2.2.1,r20.2.2.2.2.1,r20.2.2.2.2.2.1,r20.2.2.2.2.2.2)
 else
 some (false,r20.2.1,r20.2.2.1,r20.2.2.2.1,r20.2.2.2.2.1,r20.2.2.2.2.2.1,r20.2.2.2.2.2.2)
abbrev Zin:=Spec.shp Zds Zg8 Z3v
def Z9i:Ctx:=mC [(158,[],Spec.thin (Zih)),(155,[],Spec.shpR Zdk Zg0 Z3e)] [] 38 7
theorem Z3w:Sound Tryz.prog 157 (Zin) :=
 tS Z9i Tryz.f157 ⟨Z3k.thin,Z3g,trivial⟩
abbrev Zdt:Shape:=⟨sl_7,bl_1,ts_7,0⟩
abbrev Zg9:Shape:=⟨sl_1,bl_1,ts_5,7⟩
def Z3x (x:T45):Option T30 :=
 (Z3j (x.1,x.2.1,x.2.2.1,x.2.2.2.1,x.2.2.2.2.1,x.2.2.2.2.2.1,x.2.2.2.2.2.2)).bind fun r20 =>
 bif r20.1 then
 (Z3e ((5:Int),x.1,r20.2.1,r20.2.2.1,r20.2.2.2.1,r20.2.2.2.2.1,r20.2.2.2.2.2.1,r20.2.2.2.2.2.2)).bind fun r21 =>
 bif (x.1.2.2.2.1 == r21.1) then
 (Z3e ((3:Int),x.1,r20.2.1,r20.2.2.1,r20.2.2.2.1,r20.2.2.2.2.1,r20.2.2.2.2.2.1,r20.2.2.2.2.2.2)).bind fun r22 =>
 some ((decide (x.1.2.2.2.1 ≤ r22.1)),r20.2.1,r20.2.2.1,r20.2.2.2.1,r20.2.2.2.2.1,r20.2.2.2.2.2.1,r20.2.2.2.2.2.2)
 else
 some (false,r20.2.1,r20.2.2.1,r20.2.2.2.1,r20.2.2.2.2.1,r20.2.2.2.2.2.1,r20.2.2.2.2.2.2)
 else
 some (false,r20.2.1,r20.2.2.1,r20.2.2.2.1,r20.2.2.2.2.1,r20.2.2.2.2.2.1,r20.2.2.2.2.2.2)
abbrev Zio:=Spec.shp Zdt Zg9 Z3x
def Z9j:Ctx:=mC [(158,[],Spec.thin (Zih)),(155,[],Spec.shpR Zdk Zg0 Z3e)] [] 23 7
theorem Z3y:Sound Tryz.prog 159 (Zio) :=
 tS Z9j Tryz.f159 ⟨Z3k.thin,Z3g,trivial⟩
abbrev Zdu:Shape:=⟨sl_7,bl_1,ts_7,0⟩
abbrev Zga:Shape:=⟨sl_1,bl_1,ts_5,7⟩
def Z3z (x:T45):Option T30 :=
 (Z3e ((7:Int),x.1,x.2.1,x.2.2.1,x.2.2.2.1,x.2.2.2.2.1,x.2.2.2.2.2.1,x.2.2.2.2.2.2)).bind fun r20 =>
 bif (decide (r20.1 > (0:Int))) then
 (Z3e ((5:Int),x.1,x.2.1,x.2.2.1,x.2.2.2.1,x.2.2.2.2.1,x.2.2.2.2.2.1,x.2.2.2.2.2.2)).bind fun r21 =>
 (Z3e ((3:Int),x.1,x.2.1,x.2.2.1,x.2.2.2.1,x.2.2.2.2.1,x.2.2.2.2.2.1,x.2.2.2.2.2.2)).bind fun r22 =>
 some ((r21.1 == r22.1),x.2.1,x.2.2.1,x.2.2.2.1,x.2.2.2.2.1,x.2.2.2.2.2.1,x.2.2.2.2.2.2)
 else
 some (false,x.2.1,x.2.2.1,x.2.2.2.1,x.2.2.2.2.1,x.2.2.2.2.2.1,x.2.2.2.2.2.2)
abbrev Zip:=Spec.shp Zdu Zga Z3z
def Z9k:Ctx:=mC [(155,[],Spec.shpR Zdk Zg0 Z3e)] [] 17 7
theorem Z40:Sound Tryz.prog 160 (Zip) :=
 tS Z9k Tryz.f160 ⟨Z3g,trivial⟩
abbrev Zdv:Shape:=⟨sl_7,bl_1,ts_7,0⟩
abbrev Zgb:Shape:=⟨sl_1,bl_1,ts_5,7⟩
def Z41 (x:T45):Option T30 :=
 (Z3j (x.1,x.2.1,x.2.2.1,x.2.2.2.1,x.2.2.2.2.1,x.2.2.2.2.2.1,x.2.2.2.2.2.2)).bind fun r20 =>
 bif r20.1 then
 (Z3e ((7:Int),x.1,r20.2.1,r20.2.2.1,r20.2.2.2.1,r20.2.2.2.2.1,r20.2.2.2.2.2.1,r20.2.2.2.2.2.2)).bind fun r21 =>
 some ((r21.1 == (0:Int)),r20.2.1,r20.2.2.1,r20.2.2.2.1,r20.2.2.2.2.1,r20.2.2.2.2.2.1,r20.2.2.2.2.2.2)
 else
 some (false,r20.2.1,r20.2.2.1,r20.2.2.2.1,r20.2.2.2.2.1,r20.2.2.2.2.2.1,r20.2.2.2.2.2.2)
abbrev Ziq:=Spec.shp Zdv Zgb Z41
def Z9l:Ctx:=mC [(158,[],Spec.thin (Zih)),(155,[],Spec.shpR Zdk Zg0 Z3e)] [] 13 7
theorem Z42:Sound Tryz.prog 161 (Ziq) :=
 tS Z9l Tryz.f161 ⟨Z3k.thin,Z3g,trivial⟩
abbrev Zdp:Shape:=⟨sl_7,bl_1,ts_7,0⟩
abbrev Zg5:Shape:=⟨sl_2,bl_1,ts_6,7⟩
def Z3o (x:T45):Option T29 :=
 (Z3e ((11:Int),x.1,x.2.1,x.2.2.1,x.2.2.2.1,x.2.2.2.2.1,x.2.2.2.2.2.1,x.2.2.2.2.2.2)).bind fun r21 =>
 (Z3e ((12:Int),x.1,x.2.1,x.2.2.1,x.2.2.2.1,x.2.2.2.2.1,x.2.2.2.2.2.1,x.2.2.2.2.2.2)).bind fun r22 =>
 some ((IntKind.wrap .i64 (r21.1 - r22.1)),x.2.1,x.2.2.1,x.2.2.2.1,x.2.2.2.2.1,x.2.2.2.2.2.1,x.2.2.2.2.2.2)
abbrev Zik:=Spec.shp Zdp Zg5 Z3o
def Z9f:Ctx:=mC [(155,[],Spec.shpR Zdk Zg0 Z3e)] [] 11 7
theorem Z3r:Sound Tryz.prog 154 (Zik) :=
 tS Z9f Tryz.f154 ⟨Z3g,trivial⟩
abbrev Zdw:Shape:=⟨sl_7,bl_2,ts_7,0⟩
abbrev Zgc:Shape:=⟨sl_1,bl_2,ts_5,7⟩
def Z43 (x:T45):Option T30 :=
 (Z3o (x.1,x.2.1,x.2.2.1,x.2.2.2.1,x.2.2.2.2.1,x.2.2.2.2.2.1,x.2.2.2.2.2.2)).bind fun r20 =>
 some ((r20.1 == (0:Int)),r20.2.1,r20.2.2.1,r20.2.2.2.1,r20.2.2.2.2.1,r20.2.2.2.2.2.1,r20.2.2.2.2.2.2)
abbrev Zir:=Spec.shp Zdw Zgc Z43
def Z9m:Ctx:=mC [(154,[],Spec.thin (Zik))] [] 8 7
theorem Z44:Sound Tryz.prog 162 (Zir) :=
 tS Z9m Tryz.f162 ⟨Z3r.thin,trivial⟩
abbrev Zdx:Shape:=⟨sl_7,bl_2,ts_7,0⟩
abbrev Zgd:Shape:=⟨sl_1,bl_2,ts_5,7⟩
def Z45 (x:T45):Option T30 :=
 (Z3o (x.1,x.2.1,x.2.2.1,x.2.2.2.1,x.2.2.2.2.1,x.2.2.2.2.2.1,x.2.2.2.2.2.2)).bind fun r20 =>
 some ((r20.1 == (1:Int)),r20.2.1,r20.2.2.1,r20.2.2.2.1,r20.2.2.2.2.1,r20.2.2.2.2.2.1,r20.2.2.2.2.2.2)
abbrev Zis:=Spec.shp Zdx Zgd Z45
def Z9n:Ctx:=mC [(154,[],Spec.thin (Zik))] [] 8 7
theorem Z46:Sound Tryz.prog 163 (Zis) :=
 tS Z9n Tryz.f163 ⟨Z3r.thin,trivial⟩
abbrev Zdy:Shape:=⟨sl_7,bl_1,ts_7,0⟩
abbrev Zge:Shape:=⟨sl_1,bl_1,ts_5,7⟩
def Z47 (x:T45):Option T30 :=
 (Z3e ((14:Int),x.1,x.2.1,x.2.2.1,x.2.2.2.1,x.2.2.2.2.1,x.2.2.2.2.2.1,x.2.2.2.2.2.2)).bind fun r20 =>
 bif (r20.1 == (0:Int)) then
 some (((@mlook (Int) (Int) (Ty.beq (.int .i64)) (Ty.zero (.int .i64)) x.1.2.2.1 x.2.2.2.2.2.1) == (IntKind.wrap .i64 (x.1.1+(1:Int)))),x.2.1,x.2.2.1,x.2.2.2.1,x.2.2.2.2.1,x.2.2.2.2.2.1,x.2.2.2.2.2.2)
 else
 some (false,x.2.1,x.2.2.1,x.2.2.2.1,x.2.2.2.2.1,x.2.2.2.2.2.1,x.2.2.2.2.2.2)
abbrev Zit:=Spec.shp Zdy Zge Z47
def Z9o:Ctx:=mC [(155,[],Spec.shpR Zdk Zg0 Z3e)] [] 21 7
theorem Z48:Sound Tryz.prog 164 (Zit) :=
 tS Z9o Tryz.f164 ⟨Z3g,trivial⟩
abbrev Zdq:Shape:=⟨sl_7,bl_1,ts_7,0⟩
abbrev Zg6:Shape:=⟨sl_1,bl_1,ts_5,7⟩
def Z3p (x:T45):Option T30 :=
 (Z3e ((14:Int),x.1,x.2.1,x.2.2.1,x.2.2.2.1,x.2.2.2.2.1,x.2.2.2.2.2.1,x.2.2.2.2.2.2)).bind fun r20 =>
 some ((decide (r20.1 > (0:Int))),x.2.1,x.2.2.1,x.2.2.2.1,x.2.2.2.2.1,x.2.2.2.2.2.1,x.2.2.2.2.2.2)
abbrev Zil:=Spec.shp Zdq Zg6 Z3p
def Z9g:Ctx:=mC [(155,[],Spec.shpR Zdk Zg0 Z3e)] [] 8 7
theorem Z3q:Sound Tryz.prog 165 (Zil) :=
 tS Z9g Tryz.f165 ⟨Z3g,trivial⟩
abbrev Zdn:Shape:=⟨sl_5,bl_0,ts_4,0⟩
abbrev Zg3:Shape:=⟨sl_1,bl_0,ts_5,7⟩
def Z3l (x:T46):Option T30 :=
 (Z36 (x.2.1.1,(0:Int),(7:Int))).bind fun r13 =>
 bif (Bool.not r13) then
 some (false,x.2.2.1,x.2.2.2.1,x.2.2.2.2.1,x.2.2.2.2.2.1,x.2.2.2.2.2.2.1,x.2.2.2.2.2.2.2)
 else
 (Z36 (x.2.1.2.1,(0:Int),(17:Int))).bind fun r14 =>
 bif (Bool.not r14) then
 some (false,x.2.2.1,x.2.2.2.1,x.2.2.2.2.1,x.2.2.2.2.2.1,x.2.2.2.2.2.2.1,x.2.2.2.2.2.2.2)
 else
 bif (decide (x.2.1.2.2.2.1 < (0:Int))) then
 some (false,x.2.2.1,x.2.2.2.1,x.2.2.2.2.1,x.2.2.2.2.2.1,x.2.2.2.2.2.2.1,x.2.2.2.2.2.2.2)
 else
 (Z36 (x.2.1.2.2.2.2,(Int.negSucc 0),(IntKind.wrap .i64 ((((List.length x.1):Nat):Int) - (1:Int))))).bind fun r15 =>
 bif (Bool.not r15) then
 some (false,x.2.2.1,x.2.2.2.1,x.2.2.2.2.1,x.2.2.2.2.2.1,x.2.2.2.2.2.2.1,x.2.2.2.2.2.2.2)
 else
 bif (x.2.1.2.1 == (0:Int)) then
 (Z3a (x.1,x.2.1,x.2.2.1,x.2.2.2.1,x.2.2.2.2.1,x.2.2.2.2.2.1,x.2.2.2.2.2.2.1,x.2.2.2.2.2.2.2)).bind fun r16 =>
 some (r16.1,r16.2.1,r16.2.2.1,r16.2.2.2.1,r16.2.2.2.2.1,r16.2.2.2.2.2.1,r16.2.2.2.2.2.2)
 else
 bif (x.2.1.2.1 == (3:Int)) then
 bif (inb x.2.1.1 8) then
 bif ((getAt (0:Int) x.2.2.2.1 (toN x.2.1.1)) == (0:Int)) then
 some (false,x.2.2.1,x.2.2.2.1,x.2.2.2.2.1,x.2.2.2.2.2.1,x.2.2.2.2.2.2.1,x.2.2.2.2.2.2.2)
 else
 bif (x.2.1.2.1 != (1:Int)) then
 (Z3h (x.2.1.2.1,x.2.2.1,x.2.2.2.1,x.2.2.2.2.1,x.2.2.2.2.2.1,x.2.2.2.2.2.2.1,x.2.2.2.2.2.2.2)).bind fun r16 =>
 (Z36 (x.2.1.2.2.1,(0:Int),(IntKind.wrap .i64 (r16.1 - (1:Int))))).bind fun r17 =>
 bif (Bool.not r17) then
 some (false,r16.2.1,r16.2.2.1,r16.2.2.2.1,r16.2.2.2.2.1,r16.2.2.2.2.2.1,r16.2.2.2.2.2.2)
 else
 (Z38 (x.1,x.2.1,r16.2.1,r16.2.2.1,r16.2.2.2.1,r16.2.2.2.2.1,r16.2.2.2.2.2.1,r16.2.2.2.2.2.2)).bind fun r18 =>
 bif (Bool.not r18.1) then
 some (false,r18.2.1,r18.2.2.1,r18.2.2.2.1,r18.2.2.2.2.1,r18.2.2.2.2.2.1,r18.2.2.2.2.2.2)
 else
 bif (eqI x.2.1.2.1 (1:Int)) then
 (Z3s (x.2.1,r18.2.1,r18.2.2.1,r18.2.2.2.1,r18.2.2.2.2.1,r18.2.2.2.2.2.1,r18.2.2.2.2.2.2)).bind fun r19 =>
 some (r19.1,r18.2.1,r18.2.2.1,r18.2.2.2.1,r18.2.2.2.2.1,r18.2.2.2.2.2.1,r18.2.2.2.2.2.2)
 else
 bif (eqI x.2.1.2.1 (3:Int)) then
 (Z3v (x.2.1,r18.2.1,r18.2.2.1,r18.2.2.2.1,r18.2.2.2.2.1,r18.2.2.2.2.2.1,r18.2.2.2.2.2.2)).bind fun r19 =>
 some (r19.1,r19.2.1,r19.2.2.1,r19.2.2.2.1,r19.2.2.2.2.1,r19.2.2.2.2.2.1,r19.2.2.2.2.2.2)
 else
 bif (eqI x.2.1.2.1 (5:Int)) then
 (Z3x (x.2.1,r18.2.1,r18.2.2.1,r18.2.2.2.1,r18.2.2.2.2.1,r18.2.2.2.2.2.1,r18.2.2.2.2.2.2)).bind fun r19 =>
 some (r19.1,r19.2.1,r19.2.2.1,r19.2.2.2.1,r19.2.2.2.2.1,r19.2.2.2.2.2.1,r19.2.2.2.2.2.2)
 else
 bif (eqI x.2.1.2.1 (6:Int)) then
 (Z3z (x.2.1,r18.2.1,r18.2.2.1,r18.2.2.2.1,r18.2.2.2.2.1,r18.2.2.2.2.2.1,r18.2.2.2.2.2.2)).bind fun r19 =>
 some (r19.1,r19.2.1,r19.2.2.1,r19.2.2.2.1,r19.2.2.2.2.1,r19.2.2.2.2.2.1,r19.2.2.2.2.2.2)
 else
 bif (eqI x.2.1.2.1 (7:Int)) then
 (Z41 (x.2.1,r18.2.1,r18.2.2.1,r18.2.2.2.1,r18.2.2.2.2.1,r18.2.2.2.2.2.1,r18.2.2.2.2.2.2)).bind fun r19 =>
 some (r19.1,r19.2.1,r19.2.2.1,r19.2.2.2.1,r19.2.2.2.2.1,r19.2.2.2.2.2.1,r19.2.2.2.2.2.2)
 else
 bif (eqI x.2.1.2.1 (11:Int)) then
 (Z43 (x.2.1,r18.2.1,r18.2.2.1,r18.2.2.2.1,r18.2.2.2.2.1,r18.2.2.2.2.2.1,r18.2.2.2.2.2.2)).bind fun r19 =>
 some (r19.1,r19.2.1,r19.2.2.1,r19.2.2.2.1,r19.2.2.2.2.1,r19.2.2.2.2.2.1,r19.2.2.2.2.2.2)
 else
 bif (eqI x.2.1.2.1 (12:Int)) then
 (Z45 (x.2.1,r18.2.1,r18.2.2.1,r18.2.2.2.1,r18.2.2.2.2.1,r18.2.2.2.2.2.1,r18.2.2.2.2.2.2)).bind fun r19 =>
 some (r19.1,r19.2.1,r19.2.2.1,r19.2.2.2.1,r19.2.2.2.2.1,r19.2.2.2.2.2.1,r19.2.2.2.2.2.2)
 else
 bif (eqI x.2.1.2.1 (14:Int)) then
 (Z47 (x.2.1,r18.2.1,r18.2.2.1,r18.2.2.2.1,r18.2.2.2.2.1,r18.2.2.2.2.2.1,r18.2.2.2.2.2.2)).bind fun r19 =>
 some (r19.1,r19.2.1,r19.2.2.1,r19.2.2.2.1,r19.2.2.2.2.1,r19.2.2.2.2.2.1,r19.2.2.2.2.2.2)
 else
 bif (eqI x.2.1.2.1 (15:Int)) then
 (Z3p (x.2.1,r18.2.1,r18.2.2.1,r18.2.2.2.1,r18.2.2.2.2.1,r18.2.2.2.2.2.1,r18.2.2.2.2.2.2)).bind fun r19 =>
 some (r19.1,r19.2.1,r19.2.2.1,r19.2.2.2.1,r19.2.2.2.2.1,r19.2.2.2.2.2.1,r19.2.2.2.2.2.2)
 else
 some (true,r18.2.1,r18.2.2.1,r18.2.2.2.1,r18.2.2.2.2.1,r18.2.2.2.2.2.1,r18.2.2.2.2.2.2)
 else
 (Z38 (x.1,x.2.1,x.2.2.1,x.2.2.2.1,x.2.2.2.2.1,x.2.2.2.2.2.1,x.2.2.2.2.2.2.1,x.2.2.2.2.2.2.2)).bind fun r16 =>
 bif (Bool.not r16.1) then
 some (false,r16.2.1,r16.2.2.1,r16.2.2.2.1,r16.2.2.2.2.1,r16.2.2.2.2.2.1,r16.2.2.2.2.2.2)
 else
 bif (eqI x.2.1.2.1 (1:Int)) then
 (Z3s (x.2.1,r16.2.1,r16.2.2.1,r16.2.2.2.1,r16.2.2.2.2.1,r16.2.2.2.2.2.1,r16.2.2.2.2.2.2)).bind fun r17 =>
 some (r17.1,r16.2.1,r16.2.2.1,r16.2.2.2.1,r16.2.2.2.2.1,r16.2.2.2.2.2.1,r16.2.2.2.2.2.2)
 else
 bif (eqI x.2.1.2.1 (3:Int)) then
 (Z3v (x.2.1,r16.2.1,r16.2.2.1,r16.2.2.2.1,r16.2.2.2.2.1,r16.2.2.2.2.2.1,r16.2.2.2.2.2.2)).bind fun r17 =>
 some (r17.1,r17.2.1,r17.2.2.1,r17.2.2.2.1,r17.2.2.2.2.1,r17.2.2.2.2.2.1,r17.2.2.2.2.2.2)
 else
 bif (eqI x.2.1.2.1 (5:Int)) then
 (Z3x (x.2.1,r16.2.1,r16.2.2.1,r16.2.2.2.1,r16.2.2.2.2.1,r16.2.2.2.2.2.1,r16.2.2.2.2.2.2)).bind fun r17 =>
 some (r17.1,r17.2.1,r17.2.2.1,r17.2.2.2.1,r17.2.2.2.2.1,r17.2.2.2.2.2.1,r17.2.2.2.2.2.2)
 else
 bif (eqI x.2.1.2.1 (6:Int)) then
 (Z3z (x.2.1,r16.2.1,r16.2.2.1,r16.2.2.2.1,r16.2.2.2.2.1,r16.2.2.2.2.2.1,r16.2.2.2.2.2.2)).bind fun r17 =>
 some (r17.1,r17.2.1,r17.2.2.1,r17.2.2.2.1,r17.2.2.2.2.1,r17.2.2.2.2.2.1,r17.2.2.2.2.2.2)
 else
 bif (eqI x.2.1.2.1 (7:Int)) then
 (Z41 (x.2.1,r16.2.1,r16.2.2.1,r16.2.2.2.1,r16.2.2.2.2.1,r16.2.2.2.2.2.1,r16.2.2.2.2.2.2)).bind fun r17 =>
 some (r17.1,r17.2.1,r17.2.2.1,r17.2.2.2.1,r17.2.2.2.2.1,r17.2.2.2.2.2.1,r17.2.2.2.2.2.2)
 else
 bif (eqI x.2.1.2.1 (11:Int)) then
 (Z43 (x.2.1,r16.2.1,r16.2.2.1,r16.2.2.2.1,r16.2.2.2.2.1,r16.2.2.2.2.2.1,r16.2.2.2.2.2.2)).bind fun r17 =>
 some (r17.1,r17.2.1,r17.2.2.1,r17.2.2.2.1,r17.2.2.2.2.1,r17.2.2.2.2.2.1,r17.2.2.2.2.2.2)
 else
 bif (eqI x.2.1.2.1 (12:Int)) then
 (Z45 (x.2.1,r16.2.1,r16.2.2.1,r16.2.2.2.1,r16.2.2.2.2.1,r16.2.2.2.2.2.1,r16.2.2.2.2.2.2)).bind fun r17 =>
 some (r17.1,r17.2.1,r17.2.2.1,r17.2.2.2.1,r17.2.2.2.2.1,r17.2.2.2.2.2.1,r17.2.2.2.2.2.2)
 else
 bif (eqI x.2.1.2.1 (14:Int)) then
 (Z47 (x.2.1,r16.2.1,r16.2.2.1,r16.2.2.2.1,r16.2.2.2.2.1,r16.2.2.2.2.2.1,r16.2.2.2.2.2.2)).bind fun r17 =>
 some (r17.1,r17.2.1,r17.2.2.1,r17.2.2.2.1,r17.2.2.2.2.1,r17.2.2.2.2.2.1,r17.2.2.2.2.2.2)
 else
 bif (eqI x.2.1.2.1 (15:Int)) then
 (Z3p (x.2.1,r16.2.1,r16.2.2.1,r16.2.2.2.1,r16.2.2.2.2.1,r16.2.2.2.2.2.1,r16.2.2.2.2.2.2)).bind fun r17 =>
 some (r17.1,r17.2.1,r17.2.2.1,r17.2.2.2.1,r17.2.2.2.2.1,r17.2.2.2.2.2.1,r17.2.2.2.2.2.2)
 else
 some (true,r16.2.1,r16.2.2.1,r16.2.2.2.1,r16.2.2.2.2.1,r16.2.2.2.2.2.1,r16.2.2.2.2.2.2)
 else
 none
 else
 bif (inb x.2.1.1 8) then
 bif ((getAt (0:Int) x.2.2.2.1 (toN x.2.1.1)) == (0:Int)) then
 some (false,x.2.2.1,x.2.2.2.1,x.2.2.2.2.1,x.2.2.2.2.2.1,x.2.2.2.2.2.2.1,x.2.2.2.2.2.2.2)
 else
 bif (Bool.not (x.2.1.2.1 == (5:Int))) then
 bif (x.2.1.2.2.2.1 != (0:Int)) then
 some (false,x.2.2.1,x.2.2.2.1,x.2.2.2.2.1,x.2.2.2.2.2.1,x.2.2.2.2.2.2.1,x.2.2.2.2.2.2.2)
 else
 bif (x.2.1.2.1 != (1:Int)) then
 (Z3h (x.2.1.2.1,x.2.2.1,x.2.2.2.1,x.2.2.2.2.1,x.2.2.2.2.2.1,x.2.2.2.2.2.2.1,x.2.2.2.2.2.2.2)).bind fun r16 =>
 (Z36 (x.2.1.2.2.1,(0:Int),(IntKind.wrap .i64 (r16.1 - (1:Int))))).bind fun r17 =>
 bif (Bool.not r17) then
 some (false,r16.2.1,r16.2.2.1,r16.2.2.2.1,r16.2.2.2.2.1,r16.2.2.2.2.2.1,r16.2.2.2.2.2.2)
 else
 (Z38 (x.1,x.2.1,r16.2.1,r16.2.2.1,r16.2.2.2.1,r16.2.2.2.2.1,r16.2.2.2.2.2.1,r16.2.2.2.2.2.2)).bind fun r18 =>
 bif (Bool.not r18.1) then
 some (false,r18.2.1,r18.2.2.1,r18.2.2.2.1,r18.2.2.2.2.1,r18.2.2.2.2.2.1,r18.2.2.2.2.2.2)
 else
 bif (eqI x.2.1.2.1 (1:Int)) then
 (Z3s (x.2.1,r18.2.1,r18.2.2.1,r18.2.2.2.1,r18.2.2.2.2.1,r18.2.2.2.2.2.1,r18.2.2.2.2.2.2)).bind fun r19 =>
 some (r19.1,r18.2.1,r18.2.2.1,r18.2.2.2.1,r18.2.2.2.2.1,r18.2.2.2.2.2.1,r18.2.2.2.2.2.2)
 else
 bif (eqI x.2.1.2.1 (3:Int)) then
 (Z3v (x.2.1,r18.2.1,r18.2.2.1,r18.2.2.2.1,r18.2.2.2.2.1,r18.2.2.2.2.2.1,r18.2.2.2.2.2.2)).bind fun r19 =>
 some (r19.1,r19.2.1,r19.2.2.1,r19.2.2.2.1,r19.2.2.2.2.1,r19.2.2.2.2.2.1,r19.2.2.2.2.2.2)
 else
 bif (eqI x.2.1.2.1 (5:Int)) then
 (Z3x (x.2.1,r18.2.1,r18.2.2.1,r18.2.2.2.1,r18.2.2.2.2.1,r18.2.2.2.2.2.1,r18.2.2.2.2.2.2)).bind fun r19 =>
 some (r19.1,r19.2.1,r19.2.2.1,r19.2.2.2.1,r19.2.2.2.2.1,r19.2.2.2.2.2.1,r19.2.2.2.2.2.2)
 else
 bif (eqI x.2.1.2.1 (6:Int)) then
 (Z3z (x.2.1,r18.2.1,r18.2.2.1,r18.2.2.2.1,r18.2.2.2.2.1,r18.2.2.2.2.2.1,r18.2.2.2.2.2.2)).bind fun r19 =>
 some (r19.1,r19.2.1,r19.2.2.1,r19.2.2.2.1,r19.2.2.2.2.1,r19.2.2.2.2.2.1,r19.2.2.2.2.2.2)
 else
 bif (eqI x.2.1.2.1 (7:Int)) then
 (Z41 (x.2.1,r18.2.1,r18.2.2.1,r18.2.2.2.1,r18.2.2.2.2.1,r18.2.2.2.2.2.1,r18.2.2.2.2.2.2)).bind fun r19 =>
 some (r19.1,r19.2.1,r19.2.2.1,r19.2.2.2.1,r19.2.2.2.2.1,r19.2.2.2.2.2.1,r19.2.2.2.2.2.2)
 else
 bif (eqI x.2.1.2.1 (11:Int)) then
 (Z43 (x.2.1,r18.2.1,r18.2.2.1,r18.2.2.2.1,r18.2.2.2.2.1,r18.2.2.2.2.2.1,r18.2.2.2.2.2.2)).bind fun r19 =>
 some (r19.1,r19.2.1,r19.2.2.1,r19.2.2.2.1,r19.2.2.2.2.1,r19.2.2.2.2.2.1,r19.2.2.2.2.2.2)
 else
 bif (eqI x.2.1.2.1 (12:Int)) then
 (Z45 (x.2.1,r18.2.1,r18.2.2.1,r18.2.2.2.1,r18.2.2.2.2.1,r18.2.2.2.2.2.1,r18.2.2.2.2.2.2)).bind fun r19 =>
 some (r19.1,r19.2.1,r19.2.2.1,r19.2.2.2.1,r19.2.2.2.2.1,r19.2.2.2.2.2.1,r19.2.2.2.2.2.2)
 else
 bif (eqI x.2.1.2.1 (14:Int)) then
 (Z47 (x.2.1,r18.2.1,r18.2.2.1,r18.2.2.2.1,r18.2.2.2.2.1,r18.2.2.2.2.2.1,r18.2.2.2.2.2.2)).bind fun r19 =>
 some (r19.1,r19.2.1,r19.2.2.1,r19.2.2.2.1,r19.2.2.2.2.1,r19.2.2.2.2.2.1,r19.2.2.2.2.2.2)
 else
 bif (eqI x.2.1.2.1 (15:Int)) then
 (Z3p (x.2.1,r18.2.1,r18.2.2.1,r18.2.2.2.1,r18.2.2.2.2.1,r18.2.2.2.2.2.1,r18.2.2.2.2.2.2)).bind fun r19 =>
 some (r19.1,r19.2.1,r19.2.2.1,r19.2.2.2.1,r19.2.2.2.2.1,r19.2.2.2.2.2.1,r19.2.2.2.2.2.2)
 else
 some (true,r18.2.1,r18.2.2.1,r18.2.2.2.1,r18.2.2.2.2.1,r18.2.2.2.2.2.1,r18.2.2.2.2.2.2)
 else
 (Z38 (x.1,x.2.1,x.2.2.1,x.2.2.2.1,x.2.2.2.2.1,x.2.2.2.2.2.1,x.2.2.2.2.2.2.1,x.2.2.2.2.2.2.2)).bind fun r16 =>
 bif (Bool.not r16.1) then
 some (false,r16.2.1,r16.2.2.1,r16.2.2.2.1,r16.2.2.2.2.1,r16.2.2.2.2.2.1,r16.2.2.2.2.2.2)
 else
 bif (eqI x.2.1.2.1 (1:Int)) then
 (Z3s (x.2.1,r16.2.1,r16.2.2.1,r16.2.2.2.1,r16.2.2.2.2.1,r16.2.2.2.2.2.1,r16.2.2.2.2.2.2)).bind fun r17 =>
 some (r17.1,r16.2.1,r16.2.2.1,r16.2.2.2.1,r16.2.2.2.2.1,r16.2.2.2.2.2.1,r16.2.2.2.2.2.2)
 else
 bif (eqI x.2.1.2.1 (3:Int)) then
 (Z3v (x.2.1,r16.2.1,r16.2.2.1,r16.2.2.2.1,r16.2.2.2.2.1,r16.2.2.2.2.2.1,r16.2.2.2.2.2.2)).bind fun r17 =>
 some (r17.1,r17.2.1,r17.2.2.1,r17.2.2.2.1,r17.2.2.2.2.1,r17.2.2.2.2.2.1,r17.2.2.2.2.2.2)
 else
 bif (eqI x.2.1.2.1 (5:Int)) then
 (Z3x (x.2.1,r16.2.1,r16.2.2.1,r16.2.2.2.1,r16.2.2.2.2.1,r16.2.2.2.2.2.1,r16.2.2.2.2.2.2)).bind fun r17 =>
 some (r17.1,r17.2.1,r17.2.2.1,r17.2.2.2.1,r17.2.2.2.2.1,r17.2.2.2.2.2.1,r17.2.2.2.2.2.2)
 else
 bif (eqI x.2.1.2.1 (6:Int)) then
 (Z3z (x.2.1,r16.2.1,r16.2.2.1,r16.2.2.2.1,r16.2.2.2.2.1,r16.2.2.2.2.2.1,r16.2.2.2.2.2.2)).bind fun r17 =>
 some (r17.1,r17.2.1,r17.2.2.1,r17.2.2.2.1,r17.2.2.2.2.1,r17.2.2.2.2.2.1,r17.2.2.2.2.2.2)
 else
 bif (eqI x.2.1.2.1 (7:Int)) then
 (Z41 (x.2.1,r16.2.1,r16.2.2.1,r16.2.2.2.1,r16.2.2.2.2.1,r16.2.2.2.2.2.1,r16.2.2.2.2.2.2)).bind fun r17 =>
 some (r17.1,r17.2.1,r17.2.2.1,r17.2.2.2.1,r17.2.2.2.2.1,r17.2.2.2.2.2.1,r17.2.2.2.2.2.2)
 else
 bif (eqI x.2.1.2.1 (11:Int)) then
 (Z43 (x.2.1,r16.2.1,r16.2.2.1,r16.2.2.2.1,r16.2.2.2.2.1,r16.2.2.2.2.2.1,r16.2.2.2.2.2.2)).bind fun r17 =>
 some (r17.1,r17.2.1,r17.2.2.1,r17.2.2.2.1,r17.2.2.2.2.1,r17.2.2.2.2.2.1,r17.2.2.2.2.2.2)
 else
 bif (eqI x.2.1.2.1 (12:Int)) then
 (Z45 (x.2.1,r16.2.1,r16.2.2.1,r16.2.2.2.1,r16.2.2.2.2.1,r16.2.2.2.2.2.1,r16.2.2.2.2.2.2)).bind fun r17 =>
 some (r17.1,r17.2.1,r17.2.2.1,r17.2.2.2.1,r17.2.2.2.2.1,r17.2.2.2.2.2.1,r17.2.2.2.2.2.2)
 else
 bif (eqI x.2.1.2.1 (14:Int)) then
 (Z47 (x.2.1,r16.2.1,r16.2.2.1,r16.2.2.2.1,r16.2.2.2.2.1,r16.2.2.2.2.2.1,r16.2.2.2.2.2.2)).bind fun r17 =>
 some (r17.1,r17.2.1,r17.2.2.1,r17.2.2.2.1,r17.2.2.2.2.1,r17.2.2.2.2.2.1,r17.2.2.2.2.2.2)
 else
 bif (eqI x.2.1.2.1 (15:Int)) then
 (Z3p (x.2.1,r16.2.1,r16.2.2.1,r16.2.2.2.1,r16.2.2.2.2.1,r16.2.2.2.2.2.1,r16.2.2.2.2.2.2)).bind fun r17 =>
 some (r17.1,r17.2.1,r17.2.2.1,r17.2.2.2.1,r17.2.2.2.2.1,r17.2.2.2.2.2.1,r17.2.2.2.2.2.2)
 else
 some (true,r16.2.1,r16.2.2.1,r16.2.2.2.1,r16.2.2.2.2.1,r16.2.2.2.2.2.1,r16.2.2.2.2.2.2)
 else
 bif (x.2.1.2.1 != (1:Int)) then
 (Z3h (x.2.1.2.1,x.2.2.1,x.2.2.2.1,x.2.2.2.2.1,x.2.2.2.2.2.1,x.2.2.2.2.2.2.1,x.2.2.2.2.2.2.2)).bind fun r16 =>
 (Z36 (x.2.1.2.2.1,(0:Int),(IntKind.wrap .i64 (r16.1 - (1:Int))))).bind fun r17 =>
 bif (Bool.not r17) then
 some (false,r16.2.1,r16.2.2.1,r16.2.2.2.1,r16.2.2.2.2.1,r16.2.2.2.2.2.1,r16.2.2.2.2.2.2)
 else
 (Z38 (x.1,x.2.1,r16.2.1,r16.2.2.1,r16.2.2.2.1,r16.2.2.2.2.1,r16.2.2.2.2.2.1,r16.2.2.2.2.2.2)).bind fun r18 =>
 bif (Bool.not r18.1) then
 some (false,r18.2.1,r18.2.2.1,r18.2.2.2.1,r18.2.2.2.2.1,r18.2.2.2.2.2.1,r18.2.2.2.2.2.2)
 else
 bif (eqI x.2.1.2.1 (1:Int)) then
 (Z3s (x.2.1,r18.2.1,r18.2.2.1,r18.2.2.2.1,r18.2.2.2.2.1,r18.2.2.2.2.2.1,r18.2.2.2.2.2.2)).bind fun r19 =>
 some (r19.1,r18.2.1,r18.2.2.1,r18.2.2.2.1,r18.2.2.2.2.1,r18.2.2.2.2.2.1,r18.2.2.2.2.2.2)
 else
 bif (eqI x.2.1.2.1 (3:Int)) then
 (Z3v (x.2.1,r18.2.1,r18.2.2.1,r18.2.2.2.1,r18.2.2.2.2.1,r18.2.2.2.2.2.1,r18.2.2.2.2.2.2)).bind fun r19 =>
 some (r19.1,r19.2.1,r19.2.2.1,r19.2.2.2.1,r19.2.2.2.2.1,r19.2.2.2.2.2.1,r19.2.2.2.2.2.2)
 else
 bif (eqI x.2.1.2.1 (5:Int)) then
 (Z3x (x.2.1,r18.2.1,r18.2.2.1,r18.2.2.2.1,r18.2.2.2.2.1,r18.2.2.2.2.2.1,r18.2.2.2.2.2.2)).bind fun r19 =>
 some (r19.1,r19.2.1,r19.2.2.1,r19.2.2.2.1,r19.2.2.2.2.1,r19.2.2.2.2.2.1,r19.2.2.2.2.2.2)
 else
 bif (eqI x.2.1.2.1 (6:Int)) then
 (Z3z (x.2.1,r18.2.1,r18.2.2.1,r18.2.2.2.1,r18.2.2.2.2.1,r18.2.2.2.2.2.1,r18.2.2.2.2.2.2)).bind fun r19 =>
 some (r19.1,r19.2.1,r19.2.2.1,r19.2.2.2.1,r19.2.2.2.2.1,r19.2.2.2.2.2.1,r19.2.2.2.2.2.2)
 else
 bif (eqI x.2.1.2.1 (7:Int)) then
 (Z41 (x.2.1,r18.2.1,r18.2.2.1,r18.2.2.2.1,r18.2.2.2.2.1,r18.2.2.2.2.2.1,r18.2.2.2.2.2.2)).bind fun r19 =>
 some (r19.1,r19.2.1,r19.2.2.1,r19.2.2.2.1,r19.2.2.2.2.1,r19.2.2.2.2.2.1,r19.2.2.2.2.2.2)
 else
 bif (eqI x.2.1.2.1 (11:Int)) then
 (Z43 (x.2.1,r18.2.1,r18.2.2.1,r18.2.2.2.1,r18.2.2.2.2.1,r18.2.2.2.2.2.1,r18.2.2.2.2.2.2)).bind fun r19 =>
 some (r19.1,r19.2.1,r19.2.2.1,r19.2.2.2.1,r19.2.2.2.2.1,r19.2.2.2.2.2.1,r19.2.2.2.2.2.2)
 else
 bif (eqI x.2.1.2.1 (12:Int)) then
 (Z45 (x.2.1,r18.2.1,r18.2.2.1,r18.2.2.2.1,r18.2.2.2.2.1,r18.2.2.2.2.2.1,r18.2.2.2.2.2.2)).bind fun r19 =>
 some (r19.1,r19.2.1,r19.2.2.1,r19.2.2.2.1,r19.2.2.2.2.1,r19.2.2.2.2.2.1,r19.2.2.2.2.2.2)
 else
 bif (eqI x.2.1.2.1 (14:Int)) then
 (Z47 (x.2.1,r18.2.1,r18.2.2.1,r18.2.2.2.1,r18.2.2.2.2.1,r18.2.2.2.2.2.1,r18.2.2.2.2.2.2)).bind fun r19 =>
 some (r19.1,r19.2.1,r19.2.2.1,r19.2.2.2.1,r19.2.2.2.2.1,r19.2.2.2.2.2.1,r19.2.2.2.2.2.2)
 else
 bif (eqI x.2.1.2.1 (15:Int)) then
 (Z3p (x.2.1,r18.2.1,r18.2.2.1,r18.2.2.2.1,r18.2.2.2.2.1,r18.2.2.2.2.2.1,r18.2.2.2.2.2.2)).bind fun r19 =>
 some (r19.1,r19.2.1,r19.2.2.1,r19.2.2.2.1,r19.2.2.2.2.1,r19.2.2.2.2.2.1,r19.2.2.2.2.2.2)
 else
 some (true,r18.2.1,r18.2.2.1,r18.2.2.2.1,r18.2.2.2.2.1,r18.2.2.2.2.2.1,r18.2.2.2.2.2.2)
 else
 (Z38 (x.1,x.2.1,x.2.2.1,x.2.2.2.1,x.2.2.2.2.1,x.2.2.2.2.2.1,x.2.2.2.2.2.2.1,x.2.2.2.2.2.2.2)).bind fun r16 =>
 bif (Bool.not r16.1) then
 some (false,r16.2.1,r16.2.2.1,r16.2.2.2.1,r16.2.2.2.2.1,r16.2.2.2.2.2.1,r16.2.2.2.2.2.2)
 else
 bif (eqI x.2.1.2.1 (1:Int)) then
 (Z3s (x.2.1,r16.2.1,r16.2.2.1,r16.2.2.2.1,r16.2.2.2.2.1,r16.2.2.2.2.2.1,r16.2.2.2.2.2.2)).bind fun r17 =>
 some (r17.1,r16.2.1,r16.2.2.1,r16.2.2.2.1,r16.2.2.2.2.1,r16.2.2.2.2.2.1,r16.2.2.2.2.2.2)
 else
 bif (eqI x.2.1.2.1 (3:Int)) then
 (Z3v (x.2.1,r16.2.1,r16.2.2.1,r16.2.2.2.1,r16.2.2.2.2.1,r16.2.2.2.2.2.1,r16.2.2.2.2.2.2)).bind fun r17 =>
 some (r17.1,r17.2.1,r17.2.2.1,r17.2.2.2.1,r17.2.2.2.2.1,r17.2.2.2.2.2.1,r17.2.2.2.2.2.2)
 else
 bif (eqI x.2.1.2.1 (5:Int)) then
 (Z3x (x.2.1,r16.2.1,r16.2.2.1,r16.2.2.2.1,r16.2.2.2.2.1,r16.2.2.2.2.2.1,r16.2.2.2.2.2.2)).bind fun r17 =>
 some (r17.1,r17.2.1,r17.2.2.1,r17.2.2.2.1,r17.2.2.2.2.1,r17.2.2.2.2.2.1,r17.2.2.2.2.2.2)
 else
 bif (eqI x.2.1.2.1 (6:Int)) then
 (Z3z (x.2.1,r16.2.1,r16.2.2.1,r16.2.2.2.1,r16.2.2.2.2.1,r16.2.2.2.2.2.1,r16.2.2.2.2.2.2)).bind fun r17 =>
 some (r17.1,r17.2.1,r17.2.2.1,r17.2.2.2.1,r17.2.2.2.2.1,r17.2.2.2.2.2.1,r17.2.2.2.2.2.2)
 else
 bif (eqI x.2.1.2.1 (7:Int)) then
 (Z41 (x.2.1,r16.2.1,r16.2.2.1,r16.2.2.2.1,r16.2.2.2.2.1,r16.2.2.2.2.2.1,r16.2.2.2.2.2.2)).bind fun r17 =>
 some (r17.1,r17.2.1,r17.2.2.1,r17.2.2.2.1,r17.2.2.2.2.1,r17.2.2.2.2.2.1,r17.2.2.2.2.2.2)
 else
 bif (eqI x.2.1.2.1 (11:Int)) then
 (Z43 (x.2.1,r16.2.1,r16.2.2.1,r16.2.2.2.1,r16.2.2.2.2.1,r16.2.2.2.2.2.1,r16.2.2.2.2.2.2)).bind fun r17 =>
 some (r17.1,r17.2.1,r17.2.2.1,r17.2.2.2.1,r17.2.2.2.2.1,r17.2.2.2.2.2.1,r17.2.2.2.2.2.2)
 else
 bif (eqI x.2.1.2.1 (12:Int)) then
 (Z45 (x.2.1,r16.2.1,r16.2.2.1,r16.2.2.2.1,r16.2.2.2.2.1,r16.2.2.2.2.2.1,r16.2.2.2.2.2.2)).bind fun r17 =>
 some (r17.1,r17.2.1,r17.2.2.1,r17.2.2.2.1,r17.2.2.2.2.1,r17.2.2.2.2.2.1,r17.2.2.2.2.2.2)
 else
 bif (eqI x.2.1.2.1 (14:Int)) then
 (Z47 (x.2.1,r16.2.1,r16.2.2.1,r16.2.2.2.1,r16.2.2.2.2.1,r16.2.2.2.2.2.1,r16.2.2.2.2.2.2)).bind fun r17 =>
 some (r17.1,r17.2.1,r17.2.2.1,r17.2.2.2.1,r17.2.2.2.2.1,r17.2.2.2.2.2.1,r17.2.2.2.2.2.2)
 else
 bif (eqI x.2.1.2.1 (15:Int)) then
 (Z3p (x.2.1,r16.2.1,r16.2.2.1,r16.2.2.2.1,r16.2.2.2.2.1,r16.2.2.2.2.2.1,r16.2.2.2.2.2.2)).bind fun r17 =>
 some (r17.1,r17.2.1,r17.2.2.1,r17.2.2.2.1,r17.2.2.2.2.1,r17.2.2.2.2.2.1,r17.2.2.2.2.2.2)
 else
 some (true,r16.2.1,r16.2.2.1,r16.2.2.2.1,r16.2.2.2.2.1,r16.2.2.2.2.2.1,r16.2.2.2.2.2.2)
 else
 none
abbrev Zii:=Spec.shp Zdn Zg3 Z3l
def Z9d:Ctx:=mC [(101,[],Zib),(222,[],Spec.thin (Zid)),(223,[],Spec.thin (Zig)),(224,[],Spec.thin (Zic)),(156,[],Spec.shpR Zdr Zg7 Z3s),(157,[],Spec.thin (Zin)),(159,[],Spec.thin (Zio)),(160,[],Spec.thin (Zip)),(161,[],Spec.thin (Ziq)),(162,[],Spec.thin (Zir)),(163,[],Spec.thin (Zis)),(164,[],Spec.thin (Zit)),(165,[],Spec.thin (Zil))] [] 106 7
theorem Z3m:Sound Tryz.prog 166 (Zii) :=
 tS Z9d Tryz.f166 ⟨Z37,Z3b.thin,Z3i.thin,Z39.thin,Z3u,Z3w.thin,Z3y.thin,Z40.thin,Z42.thin,Z44.thin,Z46.thin,Z48.thin,Z3q.thin,trivial⟩
abbrev Zdj:Shape:=⟨sl_5,bl_0,ts_4,0⟩
abbrev Zfz:Shape:=⟨sl_1,bl_0,ts_5,7⟩
def Z3c (x:T46):Option T30 :=
 (Z3l (x.1,x.2.1,x.2.2.1,x.2.2.2.1,x.2.2.2.2.1,x.2.2.2.2.2.1,x.2.2.2.2.2.2.1,x.2.2.2.2.2.2.2)).bind fun r12 =>
 bif (Bool.not r12.1) then
 some (false,r12.2.1,r12.2.2.1,r12.2.2.2.1,r12.2.2.2.2.1,r12.2.2.2.2.2.1,r12.2.2.2.2.2.2)
 else
 bif (inb (natI (@mpos (Int × Int) (Int) (Ty.beq y6) (x.2.1.2.1,x.2.1.2.2.1) r12.2.2.2.2.1)) (List.length (@mput (Int × Int) (Int) (Ty.beq y6) (x.2.1.2.1,x.2.1.2.2.1) (@mlook (Int × Int) (Int) (Ty.beq y6) (Ty.zero (.int .i64)) (x.2.1.2.1,x.2.1.2.2.1) r12.2.2.2.2.1) r12.2.2.2.2.1))) then
 bif (inb x.2.1.1 8) then
 bif (x.2.1.2.1 == (0:Int)) then
 some (true,r12.2.1,(List.set r12.2.2.1 (toN x.2.1.1) (IntKind.wrap .i64 ((((List.length x.1):Nat):Int)+(1:Int)))),(IntKind.wrap .i64 (r12.2.2.2.1+(1:Int))),(mset (@mput (Int × Int) (Int) (Ty.beq y6) (x.2.1.2.1,x.2.1.2.2.1) (@mlook (Int × Int) (Int) (Ty.beq y6) (Ty.zero (.int .i64)) (x.2.1.2.1,x.2.1.2.2.1) r12.2.2.2.2.1) r12.2.2.2.2.1) (toN (natI (@mpos (Int × Int) (Int) (Ty.beq y6) (x.2.1.2.1,x.2.1.2.2.1) r12.2.2.2.2.1))) (IntKind.wrap .i64 ((@mlook (Int × Int) (Int) (Ty.beq y6) (Ty.zero (.int .i64)) (x.2.1.2.1,x.2.1.2.2.1) r12.2.2.2.2.1)+(1:Int)))),r12.2.2.2.2.2.1,r12.2.2.2.2.2.2)
 else
 bif (x.2.1.2.1 == (13:Int)) then
 bif ((@mlook (Int) (Int) (Ty.beq (.int .i64)) (Ty.zero (.int .i64)) x.2.1.2.2.1 r12.2.2.2.2.2.1) == (0:Int)) then
 some (true,r12.2.1,(List.set r12.2.2.1 (toN x.2.1.1) (IntKind.wrap .i64 ((((List.length x.1):Nat):Int)+(1:Int)))),r12.2.2.2.1,(mset (@mput (Int × Int) (Int) (Ty.beq y6) (x.2.1.2.1,x.2.1.2.2.1) (@mlook (Int × Int) (Int) (Ty.beq y6) (Ty.zero (.int .i64)) (x.2.1.2.1,x.2.1.2.2.1) r12.2.2.2.2.1) r12.2.2.2.2.1) (toN (natI (@mpos (Int × Int) (Int) (Ty.beq y6) (x.2.1.2.1,x.2.1.2.2.1) r12.2.2.2.2.1))) (IntKind.wrap .i64 ((@mlook (Int × Int) (Int) (Ty.beq y6) (Ty.zero (.int .i64)) (x.2.1.2.1,x.2.1.2.2.1) r12.2.2.2.2.1)+(1:Int)))),(@mput (Int) (Int) (Ty.beq (.int .i64)) x.2.1.2.2.1 (IntKind.wrap .i64 (x.2.1.1+(1:Int))) r12.2.2.2.2.2.1),r12.2.2.2.2.2.2)
 else
 some (true,r12.2.1,(List.set r12.2.2.1 (toN x.2.1.1) (IntKind.wrap .i64 ((((List.length x.1):Nat):Int)+(1:Int)))),r12.2.2.2.1,(mset (@mput (Int × Int) (Int) (Ty.beq y6) (x.2.1.2.1,x.2.1.2.2.1) (@mlook (Int × Int) (Int) (Ty.beq y6) (Ty.zero (.int .i64)) (x.2.1.2.1,x.2.1.2.2.1) r12.2.2.2.2.1) r12.2.2.2.2.1) (toN (natI (@mpos (Int × Int) (Int) (Ty.beq y6) (x.2.1.2.1,x.2.1.2.2.1) r12.2.2.2.2.1))) (IntKind.wrap .i64 ((@mlook (Int × Int) (Int) (Ty.beq y6) (Ty.zero (.int .i64)) (x.2.1.2.1,x.2.1.2.2.1) r12.2.2.2.2.1)+(1:Int)))),r12.2.2.2.2.2.1,r12.2.2.2.2.2.2)
 else
 some (true,r12.2.1,(List.set r12.2.2.1 (toN x.2.1.1) (IntKind.wrap .i64 ((((List.length x.1):Nat):Int)+(1:Int)))),r12.2.2.2.1,(mset (@mput (Int × Int) (Int) (Ty.beq y6) (x.2.1.2.1,x.2.1.2.2.1) (@mlook (Int × Int) (Int) (Ty.beq y6) (Ty.zero (.int .i64)) (x.2.1.2.1,x.2.1.2.2.1) r12.2.2.2.2.1) r12.2.2.2.2.1) (toN (natI (@mpos (Int × Int) (Int) (Ty.beq y6) (x.2.1.2.1,x.2.1.2.2.1) r12.2.2.2.2.1))) (IntKind.wrap .i64 ((@mlook (Int × Int) (Int) (Ty.beq y6) (Ty.zero (.int .i64)) (x.2.1.2.1,x.2.1.2.2.1) r12.2.2.2.2.1)+(1:Int)))),r12.2.2.2.2.2.1,r12.2.2.2.2.2.2)
 else
 none
 else
 none
abbrev Zie:=Spec.shp Zdj Zfz Z3c
def Z99:Ctx:=mC [(166,[],Spec.thin (Zii))] [] 64 7
theorem Z3d:Sound Tryz.prog 104 (Zie) :=
 tS Z99 Tryz.f104 ⟨Z3m.thin,trivial⟩
abbrev Zbs:Shape:=⟨[(1,(.hole y36)),(6,(.ptr 0 [])),(27,(.hole y36)),(28,(.hole (.int .i64))),(29,(.hole (.int .i64)))],bl_0,[y36,y36,(.int .i64),(.int .i64),y1,y2,(.int .i64),(.slice y8),(.slice y6),(.slice y6)],0⟩
abbrev Zaw:List (ETag × Shape):=[(.ret,⟨[(4,(.hole (.int .i64))),(5,(.hole (.int .i64)))],[],ts_8,0⟩),(.exit 0,⟨[],[],[],0⟩)]
def Z6k (x:(List (T20) × List (T20) × Int × Int × List Int × List Int × Int × List (T8) × List (Int × Int) × List (Int × Int))):Option ((List (T20) × List (T20) × Int × Int × List Int × List Int × Int × List (T8) × List (Int × Int) × List (Int × Int)) ⊕ ((Int × Int) ⊕ Unit)) :=
 bif (decide (x.2.2.2.1 < x.2.2.1)) then
 bif (inb x.2.2.2.1 (List.length x.2.1)) then
 bif (sub3 (0:Int) x.2.2.2.1 (List.length x.1)) then
 (Z3c ((cut x.1 (toN (0:Int)) ((toN x.2.2.2.1) - (toN (0:Int)))),(getAt ((0:Int),(0:Int),(0:Int),(0:Int),(0:Int)) x.2.1 (toN x.2.2.2.1)),x.2.2.2.2.1,x.2.2.2.2.2.1,x.2.2.2.2.2.2.1,x.2.2.2.2.2.2.2.1,x.2.2.2.2.2.2.2.2.1,x.2.2.2.2.2.2.2.2.2)).bind fun r11 =>
 bif (Bool.not r11.1) then
 some (.inr (.inl (x.2.2.2.1,(0:Int))))
 else
 some (.inl (x.1,x.2.1,x.2.2.1,(IntKind.wrap .i64 (x.2.2.2.1+(1:Int))),r11.2.1,r11.2.2.1,r11.2.2.2.1,r11.2.2.2.2.1,r11.2.2.2.2.2.1,r11.2.2.2.2.2.2))
 else
 none
 else
 none
 else
 some (.inr (.inr ()))
def Z95:Ctx:=mC [(92,[100],Zi1),(102,[],Ziu),(103,[],Zij),(104,[],Spec.thin (Zie))] [] 43 0
theorem Z6l:CSound Tryz.prog ⟨43,0,true⟩ (.loop (loopOf 7 Tryz.f61)) (pieceSpec Zbs Zaw (loop Z6k)) :=
 tL Z95 7 Tryz.f61 ⟨Z2n,Z4b,Z49,Z3d.thin,trivial⟩
abbrev Zde:Shape:=⟨sl_9,[],[y1,y36],0⟩
abbrev Zfu:Shape:=⟨sl_10,[],ts_8,0⟩
def Z32 (x:T36):Option (Int × Int) :=
 bif (decide ((((List.length x.1):Nat):Int) > (4:Int))) then
 some ((0:Int),(1:Int))
 else
 (Z2m x.1).bind fun r7 =>
 bif r7 then
 some ((0:Int),(1:Int))
 else
 (Z4a ()).bind fun r8 =>
 (Z3n (x.1,((0:Int) :: ((0:Int) :: ((0:Int) :: ((0:Int) :: ((0:Int) :: ((0:Int) :: ((0:Int) :: ((0:Int) :: ([]:List Int))))))))),(0:Int),([]:List T8),([]:List (Int × Int)),r8)).bind fun r9 =>
 (loop Z6k (x.2,x.2,(((List.length x.2):Nat):Int),(0:Int),r9.1,r9.2.1,r9.2.2.1,r9.2.2.2.1,r9.2.2.2.2.1,r9.2.2.2.2.2)).bind fun r10 =>
 match r10 with
 | .inl y11 =>
 some (y11.1,y11.2)
 | .inr y11 =>
 some ((Int.negSucc 0),(0:Int))
abbrev Zi9:=Spec.shp Zde Zfu Z32
def Z93:Ctx:=mC [(92,[100],Zi1),(102,[],Ziu),(103,[],Zij),(104,[],Spec.thin (Zie))] [(0,7,pieceSpec Zbs Zaw (loop Z6k))] 43 0
theorem Z35:Sound Tryz.prog 61 (Zi9) :=
 tS Z93 Tryz.f61 ⟨Z2n,Z4b,Z49,Z3d.thin,trivial⟩ ⟨(pL 7 Tryz.f61 Z6l),trivial⟩
abbrev Zb1:Shape:=⟨[(5,(.ptr 0 [])),(16,(.hole y36)),(17,(.hole (.int .i64))),(18,(.hole (.int .i64)))],bl_3,[y36,(.int .i64),(.int .i64),y1,y27,(.slice y6),(.slice y6),y15,(.slice y6)],0⟩
abbrev Za5:List (ETag × Shape):=[(.exit 0,⟨[(5,(.ptr 0 []))],bl_3,ts_9,0⟩)]
def Z52 (x:(List (T20) × Int × Int × List Int × List (T21) × List (Int × Int) × List (Int × Int) × List T2 × List (Int × Int))):Option ((List (T20) × Int × Int × List Int × List (T21) × List (Int × Int) × List (Int × Int) × List T2 × List (Int × Int)) ⊕ (List Int × List (T21) × List (Int × Int) × List (Int × Int) × List T2 × List (Int × Int))) :=
 bif (decide (x.2.2.1 < x.2.1)) then
 bif (inb x.2.2.1 (List.length x.1)) then
 bif ((getAt ((0:Int),(0:Int),(0:Int),(0:Int),(0:Int)) x.1 (toN x.2.2.1)).2.1 == (3:Int)) then
 some (.inl (x.1,x.2.1,(IntKind.wrap .i64 (x.2.2.1+(1:Int))),x.2.2.2.1,(@mput (Int × T0) (Int) (Ty.beq y9) ((getAt ((0:Int),(0:Int),(0:Int),(0:Int),(0:Int)) x.1 (toN x.2.2.1)).2.2.1,(getAt ((0:Int),(0:Int),(0:Int),(0:Int),(0:Int)) x.1 (toN x.2.2.1)).2.2.2.1,((getAt ((0:Int),(0:Int),(0:Int),(0:Int),(0:Int)) x.1 (toN x.2.2.1)).2.1 == (5:Int))) (IntKind.wrap .i64 ((getAt ((0:Int),(0:Int),(0:Int),(0:Int),(0:Int)) x.1 (toN x.2.2.1)).2.2.2.2+(1:Int))) x.2.2.2.2.1),x.2.2.2.2.2.1,x.2.2.2.2.2.2.1,x.2.2.2.2.2.2.2.1,x.2.2.2.2.2.2.2.2))
 else
 bif ((getAt ((0:Int),(0:Int),(0:Int),(0:Int),(0:Int)) x.1 (toN x.2.2.1)).2.1 == (5:Int)) then
 some (.inl (x.1,x.2.1,(IntKind.wrap .i64 (x.2.2.1+(1:Int))),x.2.2.2.1,(@mput (Int × T0) (Int) (Ty.beq y9) ((getAt ((0:Int),(0:Int),(0:Int),(0:Int),(0:Int)) x.1 (toN x.2.2.1)).2.2.1,(getAt ((0:Int),(0:Int),(0:Int),(0:Int),(0:Int)) x.1 (toN x.2.2.1)).2.2.2.1,((getAt ((0:Int),(0:Int),(0:Int),(0:Int),(0:Int)) x.1 (toN x.2.2.1)).2.1 == (5:Int))) (IntKind.wrap .i64 ((getAt ((0:Int),(0:Int),(0:Int),(0:Int),(0:Int)) x.1 (toN x.2.2.1)).2.2.2.2+(1:Int))) x.2.2.2.2.1),x.2.2.2.2.2.1,x.2.2.2.2.2.2.1,x.2.2.2.2.2.2.2.1,x.2.2.2.2.2.2.2.2))
 else
 some (.inl (x.1,x.2.1,(IntKind.wrap .i64 (x.2.2.1+(1:Int))),x.2.2.2.1,x.2.2.2.2.1,x.2.2.2.2.2.1,x.2.2.2.2.2.2.1,x.2.2.2.2.2.2.2.1,x.2.2.2.2.2.2.2.2))
 else
 none
 else
 some (.inr (x.2.2.2.1,x.2.2.2.2.1,x.2.2.2.2.2.1,x.2.2.2.2.2.2.1,x.2.2.2.2.2.2.2.1,x.2.2.2.2.2.2.2.2))
def Z6z:Ctx:=mC [] [] 47 0
theorem Z53:CSound Tryz.prog ⟨47,0,true⟩ (.loop (loopOf 4 Tryz.f62)) (pieceSpec Zb1 Za5 (loop Z52)) :=
 tL Z6z 4 Tryz.f62 trivial
abbrev Zc1:Shape:=⟨sl_9,[],[y1,y36],0⟩
abbrev Zeh:Shape:=⟨sl_4,bl_3,ts_9,0⟩
def Zc (x:T36):Option (List Int × List (T21) × List (Int × Int) × List (Int × Int) × List T2 × List (Int × Int)) :=
 (loop Z52 (x.2,(((List.length x.2):Nat):Int),(0:Int),x.1,([]:List T21),([]:List (Int × Int)),([]:List (Int × Int)),([]:List (Int × (List Int))),([]:List (Int × Int)))).bind fun r8 =>
 some (r8.1,r8.2.1,r8.2.2.1,r8.2.2.2.1,r8.2.2.2.2.1,r8.2.2.2.2.2)
abbrev Zgw:=Spec.shp Zc1 Zeh Zc
def Z6y:Ctx:=mC [] [(0,4,pieceSpec Zb1 Za5 (loop Z52))] 47 0
theorem Zd:Sound Tryz.prog 62 (Zgw) :=
 tS Z6y Tryz.f62 trivial ⟨(pL 4 Tryz.f62 Z53),trivial⟩
abbrev Zbz:Shape:=⟨sl_8,bl_3,ts_10,0⟩
abbrev Zef:Shape:=⟨[(0,(.fn 105 .nil (.cons (.ptr 6 []) (.cons (.ptr 7 []) (.cons (.ptr 8 []) .nil)))))],[.var (.pr (.hole y1) (.pr (.mp 1) (.pr (.mp 2) (.pr (.mp 3) (.pr (.mp 4) (.mp 5)))))),.mp y9 (.int .i64),.mp (.int .i64) (.int .i64),.mp (.int .i64) (.int .i64),.mo (.int .i64) (.int .i64),.mp (.int .i64) (.int .i64),.var (.ptr 0 []),.var (.hole y31),.var (.hole (.int .i64))],[y1,y27,(.slice y6),(.slice y6),y15,(.slice y6),y31,(.int .i64)],6⟩
def Z8 (x:(Int × T20 × List Int × List (T21) × List (Int × Int) × List (Int × Int) × List T2 × List (Int × Int))):Option (List Int × List (T21) × List (Int × Int) × List (Int × Int) × List T2 × List (Int × Int) × T20 × Int) :=
 some (x.2.2.1,x.2.2.2.1,x.2.2.2.2.1,x.2.2.2.2.2.1,x.2.2.2.2.2.2.1,x.2.2.2.2.2.2.2,x.2.1,x.1)
abbrev Zgu:=Spec.shp Zbz Zef Z8
def Z6v:Ctx:=mC [] [] 8 6
theorem Zb:Sound Tryz.prog 63 (Zgu) :=
 tS Z6v Tryz.f63 trivial
abbrev Zbw:Shape:=⟨[(12,(.ptr 0 [])),(40,(.hole (.int .i64)))],bl_4,[(.int .i64),y1],0⟩
abbrev Zec:Shape:=⟨sl_2,bl_4,[(.int .i64),y1],1⟩
def Z2 (x:T2):Option T2 :=
 bif (fits ((List.length x.2)+(List.length (x.1 :: ([]:List Int))))) then
 some ((0:Int),(x.2++(x.1 :: ([]:List Int))))
 else
 none
def Z6s:Ctx:=mC [] [] 58 1 false
theorem Z3:YSound Tryz.prog 983052 [12] (Spec.rnd [12,40] Zbw Zec Z2) :=
 YSound.rnd (C:=Z6s) (rt:=⟨rfPs (rfOf 12 Tryz.f15),rfAs (rfOf 12 Tryz.f15),rfBody (rfOf 12 Tryz.f15),58⟩) (by kernel_rfl) (ctxOK mixed tbl_ok rfl trivial) (SumOK.of trivial) (SumOK.of trivial) rfl rfl [12] Zbw Zec rfl (by decide) (by decide) rfl (fun y=>⟨_,rfl⟩) (of_decide_eq_true (by kernel_rfl)) (of_decide_eq_true (by kernel_rfl)) Z2 (fun x=>by kernel_rfl)
abbrev Zb0:Shape:=⟨[(0,(.yl 0)),(3,(.ptr 3 [])),(70,(.sl 11)),(71,(.hole (.int .i64))),(72,(.hole (.int .i64)))],[.lp 983052 [12] (.cons (.ptr 4 []) .nil),.var (.ptr 5 []),.var (.hole y31),.var (.hole (.int .i64)),.var (.sl 12),.var (.pr (.hole y1) (.pr (.mp 6) (.pr (.mp 7) (.pr (.mp 8) (.pr (.mp 9) (.mp 10)))))),.mp y9 (.int .i64),.mp (.int .i64) (.int .i64),.mp (.int .i64) (.int .i64),.mo (.int .i64) (.int .i64),.mp (.int .i64) (.int .i64),.row (.int .i64),.row (.int .i64)],[(.int .i64),(.int .i64),y31,(.int .i64),y1,y27,(.slice y6),(.slice y6),y15,(.slice y6),y1,y1],11⟩
abbrev Za4:List (ETag × Shape):=[(.ret,⟨[],bl_5,ts_11,11⟩),(.exit 1,⟨[],bl_6,ts_12,11⟩)]
def Z50 (x:(Int × Int × T20 × Int × List Int × List (T21) × List (Int × Int) × List (Int × Int) × List T2 × List (Int × Int) × List Int × List Int)):Option ((Int × Int × T20 × Int × List Int × List (T21) × List (Int × Int) × List (Int × Int) × List T2 × List (Int × Int) × List Int × List Int) ⊕ ((Int × T20 × Int × List Int × List (T21) × List (Int × Int) × List (Int × Int) × List T2 × List (Int × Int) × List Int) ⊕ (T20 × Int × List Int × List (T21) × List (Int × Int) × List (Int × Int) × List T2 × List (Int × Int) × List Int))) :=
 bif (decide (x.2.1 < x.1)) then
 bif (inb x.2.1 (List.length x.2.2.2.2.2.2.2.2.2.2.1)) then
 bif (decide ((getAt (0:Int) x.2.2.2.2.2.2.2.2.2.2.1 (toN x.2.1)) > (0:Int))) then
 bif (decide ((getAt (0:Int) x.2.2.2.2.2.2.2.2.2.2.1 (toN x.2.1)) ≤ x.2.2.2.1)) then
 (Z2 ((IntKind.wrap .i64 ((getAt (0:Int) x.2.2.2.2.2.2.2.2.2.2.1 (toN x.2.1)) - (1:Int))),x.2.2.2.2.2.2.2.2.2.2.2)).bind fun r12 =>
 bif (eqI r12.1 (0:Int)) then
 some (.inl (x.1,(IntKind.wrap .i64 (x.2.1+(1:Int))),x.2.2.1,x.2.2.2.1,x.2.2.2.2.1,x.2.2.2.2.2.1,x.2.2.2.2.2.2.1,x.2.2.2.2.2.2.2.1,x.2.2.2.2.2.2.2.2.1,x.2.2.2.2.2.2.2.2.2.1,x.2.2.2.2.2.2.2.2.2.2.1,r12.2))
 else
 some (.inr (.inl (r12.1,x.2.2.1,x.2.2.2.1,x.2.2.2.2.1,x.2.2.2.2.2.1,x.2.2.2.2.2.2.1,x.2.2.2.2.2.2.2.1,x.2.2.2.2.2.2.2.2.1,x.2.2.2.2.2.2.2.2.2.1,r12.2)))
 else
 some (.inl (x.1,(IntKind.wrap .i64 (x.2.1+(1:Int))),x.2.2.1,x.2.2.2.1,x.2.2.2.2.1,x.2.2.2.2.2.1,x.2.2.2.2.2.2.1,x.2.2.2.2.2.2.2.1,x.2.2.2.2.2.2.2.2.1,x.2.2.2.2.2.2.2.2.2.1,x.2.2.2.2.2.2.2.2.2.2.1,x.2.2.2.2.2.2.2.2.2.2.2))
 else
 some (.inl (x.1,(IntKind.wrap .i64 (x.2.1+(1:Int))),x.2.2.1,x.2.2.2.1,x.2.2.2.2.1,x.2.2.2.2.2.1,x.2.2.2.2.2.2.1,x.2.2.2.2.2.2.2.1,x.2.2.2.2.2.2.2.2.1,x.2.2.2.2.2.2.2.2.2.1,x.2.2.2.2.2.2.2.2.2.2.1,x.2.2.2.2.2.2.2.2.2.2.2))
 else
 none
 else
 some (.inr (.inr (x.2.2.1,x.2.2.2.1,x.2.2.2.2.1,x.2.2.2.2.2.1,x.2.2.2.2.2.2.1,x.2.2.2.2.2.2.2.1,x.2.2.2.2.2.2.2.2.1,x.2.2.2.2.2.2.2.2.2.1,x.2.2.2.2.2.2.2.2.2.2.2)))
def Z6x:Ctx:=mC [] [] 91 11 true [(983052,[12],Spec.rnd [12,40] { sl:=[(12,(.ptr 0 [])),(40,(.hole (.int .i64)))],bl:=[.var (.sl 1),.row (.int .i64)],ts:=[(.int .i64),(.slice (.int .i64))],pin:=0 } { sl:=[(0,(.hole (.int .i64)))],bl:=[.var (.sl 1),.row (.int .i64)],ts:=[(.int .i64),(.slice (.int .i64))],pin:=1 } Z2)]
theorem Z51:CSound Tryz.prog ⟨91,11,true⟩ (.loop (loopOf 15 Tryz.f105)) (pieceSpec Zb0 Za4 (loop Z50)) :=
 tL Z6x 15 Tryz.f105 trivial trivial ⟨Z3,trivial⟩
abbrev Zbx:Shape:=⟨[(0,(.ptr 0 [])),(1,(.hole y31))],bl_3,[y31,y1,y27,(.slice y6),(.slice y6),y15,(.slice y6)],0⟩
abbrev Zed:Shape:=⟨sl_2,bl_3,[(.int .i64),y1,y27,(.slice y6),(.slice y6),y15,(.slice y6)],6⟩
def Z4 (x:(T20 × List Int × List (T21) × List (Int × Int) × List (Int × Int) × List T2 × List (Int × Int))):Option (Int × List Int × List (T21) × List (Int × Int) × List (Int × Int) × List T2 × List (Int × Int)) :=
 bif (x.1.2.1 == (5:Int)) then
 some ((@mlook (Int × T0) (Int) (Ty.beq y9) (Ty.zero (.int .i64)) (x.1.2.2.1,x.1.2.2.2.1,false) x.2.2.1),x.2.1,x.2.2.1,x.2.2.2.1,x.2.2.2.2.1,x.2.2.2.2.2.1,x.2.2.2.2.2.2)
 else
 bif (inb x.1.2.2.1 (List.length x.2.1)) then
 some ((@mlook (Int × T0) (Int) (Ty.beq y9) (Ty.zero (.int .i64)) (x.1.2.2.1,(IntKind.wrap .i64 (x.1.2.2.2.1 - (getAt (0:Int) x.2.1 (toN x.1.2.2.1)))),true) x.2.2.1),x.2.1,x.2.2.1,x.2.2.2.1,x.2.2.2.2.1,x.2.2.2.2.2.1,x.2.2.2.2.2.2)
 else
 none
abbrev Zgs:=Spec.shp Zbx Zed Z4
def Z6t:Ctx:=mC [] [] 37 6
theorem Z5:Sound Tryz.prog 106 (Zgs) :=
 tS Z6t Tryz.f106 trivial
abbrev Zc0:Shape:=⟨[(0,(.yl 0)),(1,(.ptr 1 [])),(2,(.ptr 2 [])),(3,(.ptr 3 []))],bl_6,ts_12,0⟩
abbrev Zeg:Shape:=⟨[],bl_5,ts_11,11⟩
def Z9 (x:(T20 × Int × List Int × List (T21) × List (Int × Int) × List (Int × Int) × List T2 × List (Int × Int) × List Int)):Option (Int × T20 × Int × List Int × List (T21) × List (Int × Int) × List (Int × Int) × List T2 × List (Int × Int) × List Int) :=
 bif (x.1.2.1 == (0:Int)) then
 (loop Z50 ((((List.length (((@mlook (Int) (Int) (Ty.beq (.int .i64)) (Ty.zero (.int .i64)) x.1.1 x.2.2.2.2.2.2.2.1) :: ([]:List Int))++((IntKind.wrap .i64 (x.1.2.2.2.2+(1:Int))) :: ([]:List Int)))):Nat):Int),(0:Int),x.1,x.2.1,x.2.2.1,x.2.2.2.1,x.2.2.2.2.1,x.2.2.2.2.2.1,x.2.2.2.2.2.2.1,x.2.2.2.2.2.2.2.1,(((@mlook (Int) (Int) (Ty.beq (.int .i64)) (Ty.zero (.int .i64)) x.1.1 x.2.2.2.2.2.2.2.1) :: ([]:List Int))++((IntKind.wrap .i64 (x.1.2.2.2.2+(1:Int))) :: ([]:List Int))),x.2.2.2.2.2.2.2.2)).bind fun r11 =>
 match r11 with
 | .inl y12 =>
 some (y12.1,y12.2.1,y12.2.2.1,y12.2.2.2.1,y12.2.2.2.2.1,y12.2.2.2.2.2.1,y12.2.2.2.2.2.2.1,y12.2.2.2.2.2.2.2.1,y12.2.2.2.2.2.2.2.2.1,y12.2.2.2.2.2.2.2.2.2)
 | .inr y12 =>
 some ((0:Int),y12.1,y12.2.1,y12.2.2.1,y12.2.2.2.1,y12.2.2.2.2.1,y12.2.2.2.2.2.1,y12.2.2.2.2.2.2.1,y12.2.2.2.2.2.2.2.1,y12.2.2.2.2.2.2.2.2)
 else
 bif (x.1.2.1 == (5:Int)) then
 (Z4 (x.1,x.2.2.1,x.2.2.2.1,x.2.2.2.2.1,x.2.2.2.2.2.1,x.2.2.2.2.2.2.1,x.2.2.2.2.2.2.2.1)).bind fun r11 =>
 (loop Z50 ((((List.length (((@mlook (Int) (Int) (Ty.beq (.int .i64)) (Ty.zero (.int .i64)) x.1.1 x.2.2.2.2.2.2.2.1) :: ([]:List Int))++(r11.1 :: ([]:List Int)))):Nat):Int),(0:Int),x.1,x.2.1,r11.2.1,r11.2.2.1,r11.2.2.2.1,r11.2.2.2.2.1,r11.2.2.2.2.2.1,r11.2.2.2.2.2.2,(((@mlook (Int) (Int) (Ty.beq (.int .i64)) (Ty.zero (.int .i64)) x.1.1 x.2.2.2.2.2.2.2.1) :: ([]:List Int))++(r11.1 :: ([]:List Int))),x.2.2.2.2.2.2.2.2)).bind fun r12 =>
 match r12 with
 | .inl y13 =>
 some (y13.1,y13.2.1,y13.2.2.1,y13.2.2.2.1,y13.2.2.2.2.1,y13.2.2.2.2.2.1,y13.2.2.2.2.2.2.1,y13.2.2.2.2.2.2.2.1,y13.2.2.2.2.2.2.2.2.1,y13.2.2.2.2.2.2.2.2.2)
 | .inr y13 =>
 some ((0:Int),y13.1,y13.2.1,y13.2.2.1,y13.2.2.2.1,y13.2.2.2.2.1,y13.2.2.2.2.2.1,y13.2.2.2.2.2.2.1,y13.2.2.2.2.2.2.2.1,y13.2.2.2.2.2.2.2.2)
 else
 bif (x.1.2.1 == (3:Int)) then
 (Z4 (x.1,x.2.2.1,x.2.2.2.1,x.2.2.2.2.1,x.2.2.2.2.2.1,x.2.2.2.2.2.2.1,x.2.2.2.2.2.2.2.1)).bind fun r11 =>
 (loop Z50 ((((List.length (((@mlook (Int) (Int) (Ty.beq (.int .i64)) (Ty.zero (.int .i64)) x.1.1 x.2.2.2.2.2.2.2.1) :: ([]:List Int))++(r11.1 :: ([]:List Int)))):Nat):Int),(0:Int),x.1,x.2.1,r11.2.1,r11.2.2.1,r11.2.2.2.1,r11.2.2.2.2.1,r11.2.2.2.2.2.1,r11.2.2.2.2.2.2,(((@mlook (Int) (Int) (Ty.beq (.int .i64)) (Ty.zero (.int .i64)) x.1.1 x.2.2.2.2.2.2.2.1) :: ([]:List Int))++(r11.1 :: ([]:List Int))),x.2.2.2.2.2.2.2.2)).bind fun r12 =>
 match r12 with
 | .inl y13 =>
 some (y13.1,y13.2.1,y13.2.2.1,y13.2.2.2.1,y13.2.2.2.2.1,y13.2.2.2.2.2.1,y13.2.2.2.2.2.2.1,y13.2.2.2.2.2.2.2.1,y13.2.2.2.2.2.2.2.2.1,y13.2.2.2.2.2.2.2.2.2)
 | .inr y13 =>
 some ((0:Int),y13.1,y13.2.1,y13.2.2.1,y13.2.2.2.1,y13.2.2.2.2.1,y13.2.2.2.2.2.1,y13.2.2.2.2.2.2.1,y13.2.2.2.2.2.2.2.1,y13.2.2.2.2.2.2.2.2)
 else
 bif (x.1.2.1 == (6:Int)) then
 (loop Z50 ((((List.length (((@mlook (Int) (Int) (Ty.beq (.int .i64)) (Ty.zero (.int .i64)) x.1.1 x.2.2.2.2.2.2.2.1) :: ([]:List Int))++((@mlook (Int) (Int) (Ty.beq (.int .i64)) (Ty.zero (.int .i64)) x.1.2.2.1 x.2.2.2.2.1) :: ([]:List Int)))):Nat):Int),(0:Int),x.1,x.2.1,x.2.2.1,x.2.2.2.1,x.2.2.2.2.1,x.2.2.2.2.2.1,x.2.2.2.2.2.2.1,x.2.2.2.2.2.2.2.1,(((@mlook (Int) (Int) (Ty.beq (.int .i64)) (Ty.zero (.int .i64)) x.1.1 x.2.2.2.2.2.2.2.1) :: ([]:List Int))++((@mlook (Int) (Int) (Ty.beq (.int .i64)) (Ty.zero (.int .i64)) x.1.2.2.1 x.2.2.2.2.1) :: ([]:List Int))),x.2.2.2.2.2.2.2.2)).bind fun r11 =>
 match r11 with
 | .inl y12 =>
 some (y12.1,y12.2.1,y12.2.2.1,y12.2.2.2.1,y12.2.2.2.2.1,y12.2.2.2.2.2.1,y12.2.2.2.2.2.2.1,y12.2.2.2.2.2.2.2.1,y12.2.2.2.2.2.2.2.2.1,y12.2.2.2.2.2.2.2.2.2)
 | .inr y12 =>
 some ((0:Int),y12.1,y12.2.1,y12.2.2.1,y12.2.2.2.1,y12.2.2.2.2.1,y12.2.2.2.2.2.1,y12.2.2.2.2.2.2.1,y12.2.2.2.2.2.2.2.1,y12.2.2.2.2.2.2.2.2)
 else
 bif (x.1.2.1 == (11:Int)) then
 bif (@mhas (Int) (List Int) (Ty.beq (.int .i64)) x.1.2.2.1 x.2.2.2.2.2.2.1) then
 bif (fits ((List.length ((@mlook (Int) (Int) (Ty.beq (.int .i64)) (Ty.zero (.int .i64)) x.1.1 x.2.2.2.2.2.2.2.1) :: ([]:List Int)))+(List.length (@mlook (Int) (List Int) (Ty.beq (.int .i64)) [] x.1.2.2.1 x.2.2.2.2.2.2.1)))) then
 (loop Z50 ((((List.length (((@mlook (Int) (Int) (Ty.beq (.int .i64)) (Ty.zero (.int .i64)) x.1.1 x.2.2.2.2.2.2.2.1) :: ([]:List Int))++(@mlook (Int) (List Int) (Ty.beq (.int .i64)) [] x.1.2.2.1 x.2.2.2.2.2.2.1))):Nat):Int),(0:Int),x.1,x.2.1,x.2.2.1,x.2.2.2.1,x.2.2.2.2.1,x.2.2.2.2.2.1,(mset x.2.2.2.2.2.2.1 (@mpos (Int) (List Int) (Ty.beq (.int .i64)) x.1.2.2.1 x.2.2.2.2.2.2.1) (@mlook (Int) (List Int) (Ty.beq (.int .i64)) [] x.1.2.2.1 x.2.2.2.2.2.2.1)),x.2.2.2.2.2.2.2.1,(((@mlook (Int) (Int) (Ty.beq (.int .i64)) (Ty.zero (.int .i64)) x.1.1 x.2.2.2.2.2.2.2.1) :: ([]:List Int))++(@mlook (Int) (List Int) (Ty.beq (.int .i64)) [] x.1.2.2.1 x.2.2.2.2.2.2.1)),x.2.2.2.2.2.2.2.2)).bind fun r11 =>
 match r11 with
 | .inl y12 =>
 some (y12.1,y12.2.1,y12.2.2.1,y12.2.2.2.1,y12.2.2.2.2.1,y12.2.2.2.2.2.1,y12.2.2.2.2.2.2.1,y12.2.2.2.2.2.2.2.1,y12.2.2.2.2.2.2.2.2.1,y12.2.2.2.2.2.2.2.2.2)
 | .inr y12 =>
 some ((0:Int),y12.1,y12.2.1,y12.2.2.1,y12.2.2.2.1,y12.2.2.2.2.1,y12.2.2.2.2.2.1,y12.2.2.2.2.2.2.1,y12.2.2.2.2.2.2.2.1,y12.2.2.2.2.2.2.2.2)
 else
 none
 else
 (loop Z50 ((((List.length (((@mlook (Int) (Int) (Ty.beq (.int .i64)) (Ty.zero (.int .i64)) x.1.1 x.2.2.2.2.2.2.2.1) :: ([]:List Int))++([]:List Int))):Nat):Int),(0:Int),x.1,x.2.1,x.2.2.1,x.2.2.2.1,x.2.2.2.2.1,x.2.2.2.2.2.1,x.2.2.2.2.2.2.1,x.2.2.2.2.2.2.2.1,(((@mlook (Int) (Int) (Ty.beq (.int .i64)) (Ty.zero (.int .i64)) x.1.1 x.2.2.2.2.2.2.2.1) :: ([]:List Int))++([]:List Int)),x.2.2.2.2.2.2.2.2)).bind fun r11 =>
 match r11 with
 | .inl y12 =>
 some (y12.1,y12.2.1,y12.2.2.1,y12.2.2.2.1,y12.2.2.2.2.1,y12.2.2.2.2.2.1,y12.2.2.2.2.2.2.1,y12.2.2.2.2.2.2.2.1,y12.2.2.2.2.2.2.2.2.1,y12.2.2.2.2.2.2.2.2.2)
 | .inr y12 =>
 some ((0:Int),y12.1,y12.2.1,y12.2.2.1,y12.2.2.2.1,y12.2.2.2.2.1,y12.2.2.2.2.2.1,y12.2.2.2.2.2.2.1,y12.2.2.2.2.2.2.2.1,y12.2.2.2.2.2.2.2.2)
 else
 bif (x.1.2.1 == (15:Int)) then
 (loop Z50 ((((List.length (((@mlook (Int) (Int) (Ty.beq (.int .i64)) (Ty.zero (.int .i64)) x.1.1 x.2.2.2.2.2.2.2.1) :: ([]:List Int))++((@mlook (Int) (Int) (Ty.beq (.int .i64)) (Ty.zero (.int .i64)) x.1.2.2.1 x.2.2.2.2.2.1) :: ([]:List Int)))):Nat):Int),(0:Int),x.1,x.2.1,x.2.2.1,x.2.2.2.1,x.2.2.2.2.1,x.2.2.2.2.2.1,x.2.2.2.2.2.2.1,x.2.2.2.2.2.2.2.1,(((@mlook (Int) (Int) (Ty.beq (.int .i64)) (Ty.zero (.int .i64)) x.1.1 x.2.2.2.2.2.2.2.1) :: ([]:List Int))++((@mlook (Int) (Int) (Ty.beq (.int .i64)) (Ty.zero (.int .i64)) x.1.2.2.1 x.2.2.2.2.2.1) :: ([]:List Int))),x.2.2.2.2.2.2.2.2)).bind fun r11 =>
 match r11 with
 | .inl y12 =>
 some (y12.1,y12.2.1,y12.2.2.1,y12.2.2.2.1,y12.2.2.2.2.1,y12.2.2.2.2.2.1,y12.2.2.2.2.2.2.1,y12.2.2.2.2.2.2.2.1,y12.2.2.2.2.2.2.2.2.1,y12.2.2.2.2.2.2.2.2.2)
 | .inr y12 =>
 some ((0:Int),y12.1,y12.2.1,y12.2.2.1,y12.2.2.2.1,y12.2.2.2.2.1,y12.2.2.2.2.2.1,y12.2.2.2.2.2.2.1,y12.2.2.2.2.2.2.2.1,y12.2.2.2.2.2.2.2.2)
 else
 (loop Z50 ((((List.length ((@mlook (Int) (Int) (Ty.beq (.int .i64)) (Ty.zero (.int .i64)) x.1.1 x.2.2.2.2.2.2.2.1) :: ([]:List Int))):Nat):Int),(0:Int),x.1,x.2.1,x.2.2.1,x.2.2.2.1,x.2.2.2.2.1,x.2.2.2.2.2.1,x.2.2.2.2.2.2.1,x.2.2.2.2.2.2.2.1,((@mlook (Int) (Int) (Ty.beq (.int .i64)) (Ty.zero (.int .i64)) x.1.1 x.2.2.2.2.2.2.2.1) :: ([]:List Int)),x.2.2.2.2.2.2.2.2)).bind fun r11 =>
 match r11 with
 | .inl y12 =>
 some (y12.1,y12.2.1,y12.2.2.1,y12.2.2.2.1,y12.2.2.2.2.1,y12.2.2.2.2.2.1,y12.2.2.2.2.2.2.1,y12.2.2.2.2.2.2.2.1,y12.2.2.2.2.2.2.2.2.1,y12.2.2.2.2.2.2.2.2.2)
 | .inr y12 =>
 some ((0:Int),y12.1,y12.2.1,y12.2.2.1,y12.2.2.2.1,y12.2.2.2.2.1,y12.2.2.2.2.2.1,y12.2.2.2.2.2.2.1,y12.2.2.2.2.2.2.2.1,y12.2.2.2.2.2.2.2.2)
abbrev Zgv:=Spec.shp Zc0 Zeg Z9
def Z6w:Ctx:=mC [(106,[],Zgs)] [(0,15,pieceSpec Zb0 Za4 (loop Z50))] 91 11 true [(983052,[12],Spec.rnd [12,40] Zbw Zec Z2)]
theorem Za:Sound Tryz.prog 105 (Zgv) :=
 tS Z6w Tryz.f105 ⟨Z5,trivial⟩ ⟨(pL 15 Tryz.f105 Z51),trivial⟩ ⟨Z3,trivial⟩
abbrev Zby:Shape:=⟨sl_8,bl_3,ts_10,0⟩
abbrev Zee:Shape:=⟨[],bl_3,ts_9,6⟩
def Z6 (x:(Int × T20 × List Int × List (T21) × List (Int × Int) × List (Int × Int) × List T2 × List (Int × Int))):Option (List Int × List (T21) × List (Int × Int) × List (Int × Int) × List T2 × List (Int × Int)) :=
 bif (x.2.1.2.1 == (7:Int)) then
 some (x.2.2.1,x.2.2.2.1,(@mput (Int) (Int) (Ty.beq (.int .i64)) x.2.1.2.2.1 (IntKind.wrap .i64 (x.1+(1:Int))) x.2.2.2.2.1),x.2.2.2.2.2.1,x.2.2.2.2.2.2.1,(@mput (Int) (Int) (Ty.beq (.int .i64)) x.2.1.1 (IntKind.wrap .i64 (x.1+(1:Int))) x.2.2.2.2.2.2.2))
 else
 bif (x.2.1.2.1 == (14:Int)) then
 some (x.2.2.1,x.2.2.2.1,x.2.2.2.2.1,(@mput (Int) (Int) (Ty.beq (.int .i64)) x.2.1.2.2.1 (IntKind.wrap .i64 (x.1+(1:Int))) x.2.2.2.2.2.1),x.2.2.2.2.2.2.1,(@mput (Int) (Int) (Ty.beq (.int .i64)) x.2.1.1 (IntKind.wrap .i64 (x.1+(1:Int))) x.2.2.2.2.2.2.2))
 else
 bif (x.2.1.2.1 == (12:Int)) then
 bif (@mhas (Int) (List Int) (Ty.beq (.int .i64)) x.2.1.2.2.1 x.2.2.2.2.2.2.1) then
 bif (fits ((List.length (@mlook (Int) (List Int) (Ty.beq (.int .i64)) [] x.2.1.2.2.1 x.2.2.2.2.2.2.1))+(List.length ((IntKind.wrap .i64 (x.1+(1:Int))) :: ([]:List Int))))) then
 bif (Nat.beq (@mpos (Int) (List Int) (Ty.beq (.int .i64)) x.2.1.2.2.1 x.2.2.2.2.2.2.1) (@mpos (Int) (List Int) (Ty.beq (.int .i64)) x.2.1.2.2.1 x.2.2.2.2.2.2.1)) then
 some (x.2.2.1,x.2.2.2.1,x.2.2.2.2.1,x.2.2.2.2.2.1,(@mput (Int) (List Int) (Ty.beq (.int .i64)) x.2.1.2.2.1 ((@mlook (Int) (List Int) (Ty.beq (.int .i64)) [] x.2.1.2.2.1 x.2.2.2.2.2.2.1)++((IntKind.wrap .i64 (x.1+(1:Int))) :: ([]:List Int))) x.2.2.2.2.2.2.1),(@mput (Int) (Int) (Ty.beq (.int .i64)) x.2.1.1 (IntKind.wrap .i64 (x.1+(1:Int))) x.2.2.2.2.2.2.2))
 else
 none
 else
 none
 else
 some (x.2.2.1,x.2.2.2.1,x.2.2.2.2.1,x.2.2.2.2.2.1,(@mput (Int) (List Int) (Ty.beq (.int .i64)) x.2.1.2.2.1 ((IntKind.wrap .i64 (x.1+(1:Int))) :: ([]:List Int)) x.2.2.2.2.2.2.1),(@mput (Int) (Int) (Ty.beq (.int .i64)) x.2.1.1 (IntKind.wrap .i64 (x.1+(1:Int))) x.2.2.2.2.2.2.2))
 else
 some (x.2.2.1,x.2.2.2.1,x.2.2.2.2.1,x.2.2.2.2.2.1,x.2.2.2.2.2.2.1,(@mput (Int) (Int) (Ty.beq (.int .i64)) x.2.1.1 (IntKind.wrap .i64 (x.1+(1:Int))) x.2.2.2.2.2.2.2))
abbrev Zgt:=Spec.shp Zby Zee Z6
def Z6u:Ctx:=mC [] [] 55 6
theorem Z7:Sound Tryz.prog 66 (Zgt) :=
 tS Z6u Tryz.f66 trivial
abbrev Zaz:Shape:=⟨[(8,(.ptr 0 [])),(9,(.sl 6)),(29,(.hole y36)),(30,(.hole (.int .i64))),(31,(.hole (.int .i64)))],[.var (.pr (.hole y1) (.pr (.mp 1) (.pr (.mp 2) (.pr (.mp 3) (.pr (.mp 4) (.mp 5)))))),.mp y9 (.int .i64),.mp (.int .i64) (.int .i64),.mp (.int .i64) (.int .i64),.mo (.int .i64) (.int .i64),.mp (.int .i64) (.int .i64),.row y1],[y36,(.int .i64),(.int .i64),y1,y27,(.slice y6),(.slice y6),y15,(.slice y6),(.slice y1)],0⟩
abbrev Za3:List (ETag × Shape):=[(.ret,⟨[],[],[],0⟩),(.exit 0,⟨[(9,(.sl 0))],[.row y1],[(.slice y1)],0⟩)]
def Z4y (x:(List (T20) × Int × Int × List Int × List (T21) × List (Int × Int) × List (Int × Int) × List T2 × List (Int × Int) × List (List Int))):Option ((List (T20) × Int × Int × List Int × List (T21) × List (Int × Int) × List (Int × Int) × List T2 × List (Int × Int) × List (List Int)) ⊕ (Unit ⊕ (List (List Int)))) :=
 bif (decide (x.2.2.1 < x.2.1)) then
 bif (inb x.2.2.1 (List.length x.1)) then
 (Z8 (x.2.2.1,(getAt ((0:Int),(0:Int),(0:Int),(0:Int),(0:Int)) x.1 (toN x.2.2.1)),x.2.2.2.1,x.2.2.2.2.1,x.2.2.2.2.2.1,x.2.2.2.2.2.2.1,x.2.2.2.2.2.2.2.1,x.2.2.2.2.2.2.2.2.1)).bind fun r9 =>
 (Z9 (r9.2.2.2.2.2.2.1,r9.2.2.2.2.2.2.2,r9.1,r9.2.1,r9.2.2.1,r9.2.2.2.1,r9.2.2.2.2.1,r9.2.2.2.2.2.1,([]:List Int))).bind fun r10 =>
 bif (eqI r10.1 (0:Int)) then
 bif (fits (List.length r10.2.2.2.2.2.2.2.2.2)) then
 bif (fits (List.length (Yfq r10.2.2.2.2.2.2.2.2.2 (0:Nat) (List.length r10.2.2.2.2.2.2.2.2.2)))) then
 bif (fits ((List.length x.2.2.2.2.2.2.2.2.2)+(List.length ((Y4c (Yfq r10.2.2.2.2.2.2.2.2.2 (0:Nat) (List.length r10.2.2.2.2.2.2.2.2.2))) :: ([]:List (List Int)))))) then
 (Z6 (x.2.2.1,(getAt ((0:Int),(0:Int),(0:Int),(0:Int),(0:Int)) x.1 (toN x.2.2.1)),r10.2.2.2.1,r10.2.2.2.2.1,r10.2.2.2.2.2.1,r10.2.2.2.2.2.2.1,r10.2.2.2.2.2.2.2.1,r10.2.2.2.2.2.2.2.2.1)).bind fun r11 =>
 some (.inl (x.1,x.2.1,(IntKind.wrap .i64 (x.2.2.1+(1:Int))),r11.1,r11.2.1,r11.2.2.1,r11.2.2.2.1,r11.2.2.2.2.1,r11.2.2.2.2.2,(x.2.2.2.2.2.2.2.2.2++((Y4c (Yfq r10.2.2.2.2.2.2.2.2.2 (0:Nat) (List.length r10.2.2.2.2.2.2.2.2.2))) :: ([]:List (List Int))))))
 else
 none
 else
 none
 else
 none
 else
 bif (eqI r10.1 (1:Int)) then
 some (.inr (.inl ()))
 else
 none
 else
 none
 else
 some (.inr (.inr x.2.2.2.2.2.2.2.2.2))
def Z6r:Ctx:=mC [(61,[],Zi9),(62,[],Zgw),(63,[],Zgu),(64,[2000000],Yfs),(65,[2000000],Y4f),(66,[],Zgt)] [(3,12,Yd3 (rfF (rfOf 12 Tryz.f15)) 983052 [12] [] [(105,[1983052],Zgv)])] 58 0
theorem Z4z:CSound Tryz.prog ⟨58,0,true⟩ (.loop (loopOf 8 Tryz.f15)) (pieceSpec Zaz Za3 (loop Z4y)) :=
 tL Z6r 8 Tryz.f15 ⟨Z35,Zd,Zb,Y7,Y6,Z7,trivial⟩ ⟨(pR 12 Tryz.f15 (Yd5 (c:=rfOf 12 Tryz.f15) rfl (by kernel_rfl) Za [12] [])),trivial⟩
abbrev Zbv:Shape:=⟨sl_9,[],[y1,y36],0⟩
abbrev Zeb:Shape:=⟨[(0,(.hole (.slice y1))),(1,(.hole (.int .i64)))],[],[(.slice y1),(.int .i64)],0⟩
def Z0 (x:T36):Option (List (List Int) × Int) :=
 (Z32 (x.1,x.2)).bind fun r6 =>
 bif (r6.2 != (0:Int)) then
 some (([]:List (List Int)),(1:Int))
 else
 bif (decide (r6.1 ≥ (0:Int))) then
 some (([]:List (List Int)),(1:Int))
 else
 (Zc (x.1,x.2)).bind fun r7 =>
 (loop Z4y (x.2,(((List.length x.2):Nat):Int),(0:Int),r7.1,r7.2.1,r7.2.2.1,r7.2.2.2.1,r7.2.2.2.2.1,r7.2.2.2.2.2,([]:List (List Int)))).bind fun r8 =>
 match r8 with
 | .inl y9 =>
 none
 | .inr y9 =>
 some (y9,(0:Int))
abbrev Zgr:=Spec.shp Zbv Zeb Z0
def Z6q:Ctx:=mC [(61,[],Zi9),(62,[],Zgw),(63,[],Zgu),(64,[2000000],Yfs),(65,[2000000],Y4f),(66,[],Zgt)] [(3,12,Yd3 (rfF (rfOf 12 Tryz.f15)) 983052 [12] [] [(105,[1983052],Zgv)]),(0,8,pieceSpec Zaz Za3 (loop Z4y))] 58 0
theorem Z1:Sound Tryz.prog 15 (Zgr) :=
 tS Z6q Tryz.f15 ⟨Z35,Zd,Zb,Y7,Y6,Z7,trivial⟩ ⟨(pR 12 Tryz.f15 (Yd5 (c:=rfOf 12 Tryz.f15) rfl (by kernel_rfl) Za [12] [])),(pL 8 Tryz.f15 Z4z),trivial⟩
abbrev Zdc:Shape:=⟨[],[],[],0⟩
abbrev Zfs:Shape:=⟨[(0,(.fn 109 .nil (.cons (.ptr 0 []) .nil)))],[.var .nl],[],0⟩
def Z2y (x:Unit):Option Unit :=
 some ()
abbrev Zi7:=Spec.shp Zdc Zfs Z2y
def Z91:Ctx:=mC [] [] 3 0
theorem Z31:Sound Tryz.prog 67 (Zi7) :=
 tS Z91 Tryz.f67 trivial
abbrev Ze3:Shape:=⟨sl_2,[],ts_2,0⟩
abbrev Zgj:Shape:=⟨sl_1,[],ts_1,0⟩
def Z4h (x:(Int)):Option (Bool) :=
 bif (decide (x ≥ (0:Int))) then
 some (decide (x ≤ (1099511627776:Int)))
 else
 some false
abbrev Ziy:=Spec.shp Ze3 Zgj Z4h
def Z9u:Ctx:=mC [] [] 9 0
theorem Z4i:Sound Tryz.prog 115 (Ziy) :=
 tS Z9u Tryz.f115 trivial
abbrev Ze6:Shape:=⟨[(0,(.hole (.int .i64))),(1,(.ptr 0 []))],bl_7,ts_2,0⟩
abbrev Zgm:Shape:=⟨sl_1,bl_7,ts_1,1⟩
def Z4n (x:(Int)):Option (Bool) :=
 (Z4h x).bind fun r21 =>
 some (Bool.not r21)
abbrev Zj1:=Spec.shp Ze6 Zgm Z4n
def Z9x:Ctx:=mC [(115,[],Ziy)] [] 8 1
theorem Z4o:Sound Tryz.prog 180 (Zj1) :=
 tS Z9x Tryz.f180 ⟨Z4i,trivial⟩
abbrev Zbp:Shape:=⟨[(0,(.hole y1)),(1,(.fn 180 .nil (.cons (.ptr 0 []) .nil))),(7,(.hole (.int .i64))),(8,(.hole (.int .i64)))],bl_7,ts_3,1⟩
abbrev Zat:List (ETag × Shape):=[(.ret,⟨sl_3,bl_7,ts_2,1⟩),(.exit 0,⟨[],bl_7,[],1⟩)]
def Z6e (x:T10):Option (T10 ⊕ ((Int) ⊕ Unit)) :=
 bif (decide (x.2.2 < x.2.1)) then
 bif (inb x.2.2 (List.length x.1)) then
 (Z4n (getAt (0:Int) x.1 (toN x.2.2))).bind fun r20 =>
 bif r20 then
 some (.inr (.inl x.2.2))
 else
 some (.inl (x.1,x.2.1,(IntKind.wrap .i64 (x.2.2+(1:Int)))))
 else
 none
 else
 some (.inr (.inr ()))
def Z8x:Ctx:=mC [(180,[],Spec.thin (Zj1))] [] 19 1
theorem Z6f:CSound Tryz.prog ⟨19,1,true⟩ (.loop (loopOf 3 Tryz.f126)) (pieceSpec Zbp Zat (loop Z6e)) :=
 tL Z8x 3 Tryz.f126 ⟨Z4o.thin,trivial⟩
abbrev Zda:Shape:=⟨[(0,(.hole y1)),(1,(.fn 180 .nil (.cons (.ptr 0 []) .nil)))],bl_7,[y1],0⟩
abbrev Zfq:Shape:=⟨sl_2,bl_7,ts_2,1⟩
def Z2u (x:(List Int)):Option (Int) :=
 (loop Z6e (x,(((List.length x):Nat):Int),(0:Int))).bind fun r19 =>
 match r19 with
 | .inl y20 =>
 some y20
 | .inr y20 =>
 some (Int.negSucc 0)
abbrev Zi5:=Spec.shp Zda Zfq Z2u
def Z8w:Ctx:=mC [(180,[],Spec.thin (Zj1))] [(0,3,pieceSpec Zbp Zat (loop Z6e))] 19 1
theorem Z2v:Sound Tryz.prog 126 (Zi5) :=
 tS Z8w Tryz.f126 ⟨Z4o.thin,trivial⟩ ⟨(pL 3 Tryz.f126 Z6f),trivial⟩
abbrev Zd7:Shape:=⟨[(0,(.hole y1)),(1,(.fn 180 .nil (.cons (.ptr 0 []) .nil)))],bl_7,[y1],0⟩
abbrev Zfn:Shape:=⟨sl_1,bl_7,ts_1,1⟩
def Z2o (x:(List Int)):Option (Bool) :=
 (Z2u x).bind fun r18 =>
 some (decide (r18 ≥ (0:Int)))
abbrev Zi2:=Spec.shp Zd7 Zfn Z2o
def Z8r:Ctx:=mC [(126,[180],Spec.thin (Zi5))] [] 9 1
theorem Z2p:Sound Tryz.prog 92 (Zi2) :=
 tS Z8r Tryz.f92 ⟨Z2v.thin,trivial⟩
abbrev Ze7:Shape:=⟨[(0,(.fn 115 .nil .nil)),(1,(.hole y1))],[],[y1],0⟩
abbrev Zgn:Shape:=⟨sl_1,[],ts_1,0⟩
def Z4q (x:(List Int)):Option (Bool) :=
 (Z2o x).bind fun r17 =>
 some (Bool.not r17)
abbrev Zj2:=Spec.shp Ze7 Zgn Z4q
def Z9y:Ctx:=mC [(92,[180],Spec.thin (Zi2))] [] 9 0
theorem Z4r:Sound Tryz.prog 114 (Zj2) :=
 tS Z9y Tryz.f114 ⟨Z2p.thin,trivial⟩
abbrev Ze2:Shape:=⟨sl_11,[],[y1],0⟩
abbrev Zgi:Shape:=⟨sl_1,[],ts_1,0⟩
def Z4g (x:(List Int)):Option (Bool) :=
 bif (decide ((((List.length x):Nat):Int) ≤ (16:Int))) then
 (Z4q x).bind fun r16 =>
 some r16
 else
 some false
abbrev Zix:=Spec.shp Ze2 Zgi Z4g
def Z9t:Ctx:=mC [(114,[115],Zj2)] [] 10 0
theorem Z4j:Sound Tryz.prog 70 (Zix) :=
 tS Z9t Tryz.f70 ⟨Z4r,trivial⟩
abbrev Ze5:Shape:=⟨[(0,(.hole y1)),(1,(.ptr 0 []))],bl_8,[y1],0⟩
abbrev Zgl:Shape:=⟨sl_1,bl_8,ts_1,1⟩
def Z4m (x:(List Int)):Option (Bool) :=
 (Z4g x).bind fun r15 =>
 some (Bool.not r15)
abbrev Zj0:=Spec.shp Ze5 Zgl Z4m
def Z9w:Ctx:=mC [(70,[],Zix)] [] 8 1
theorem Z4p:Sound Tryz.prog 113 (Zj0) :=
 tS Z9w Tryz.f113 ⟨Z4j,trivial⟩
abbrev Zbn:Shape:=⟨[(0,(.hole (.slice y1))),(1,(.fn 113 .nil (.cons (.ptr 0 []) .nil))),(7,(.hole (.int .i64))),(8,(.hole (.int .i64)))],bl_8,[(.slice y1),(.int .i64),(.int .i64)],1⟩
abbrev Zar:List (ETag × Shape):=[(.ret,⟨sl_3,bl_8,ts_2,1⟩),(.exit 0,⟨[],bl_8,[],1⟩)]
def Z6a (x:(List (List Int) × Int × Int)):Option ((List (List Int) × Int × Int) ⊕ ((Int) ⊕ Unit)) :=
 bif (decide (x.2.2 < x.2.1)) then
 bif (inb x.2.2 (List.length x.1)) then
 (Z4m (getAt ([]:List Int) x.1 (toN x.2.2))).bind fun r14 =>
 bif r14 then
 some (.inr (.inl x.2.2))
 else
 some (.inl (x.1,x.2.1,(IntKind.wrap .i64 (x.2.2+(1:Int)))))
 else
 none
 else
 some (.inr (.inr ()))
def Z8t:Ctx:=mC [(113,[],Spec.thin (Zj0))] [] 19 1
theorem Z6b:CSound Tryz.prog ⟨19,1,true⟩ (.loop (loopOf 3 Tryz.f179)) (pieceSpec Zbn Zar (loop Z6a)) :=
 tL Z8t 3 Tryz.f179 ⟨Z4p.thin,trivial⟩
abbrev Zd8:Shape:=⟨sl_12,bl_8,[(.slice y1)],0⟩
abbrev Zfo:Shape:=⟨sl_2,bl_8,ts_2,1⟩
def Z2q (x:(List (List Int))):Option (Int) :=
 (loop Z6a (x,(((List.length x):Nat):Int),(0:Int))).bind fun r13 =>
 match r13 with
 | .inl y14 =>
 some y14
 | .inr y14 =>
 some (Int.negSucc 0)
abbrev Zi3:=Spec.shp Zd8 Zfo Z2q
def Z8s:Ctx:=mC [(113,[],Spec.thin (Zj0))] [(0,3,pieceSpec Zbn Zar (loop Z6a))] 19 1
theorem Z2r:Sound Tryz.prog 179 (Zi3) :=
 tS Z8s Tryz.f179 ⟨Z4p.thin,trivial⟩ ⟨(pL 3 Tryz.f179 Z6b),trivial⟩
abbrev Zd5:Shape:=⟨sl_12,bl_8,[(.slice y1)],0⟩
abbrev Zfl:Shape:=⟨sl_1,bl_8,ts_1,1⟩
def Z2k (x:(List (List Int))):Option (Bool) :=
 (Z2q x).bind fun r12 =>
 some (decide (r12 ≥ (0:Int)))
abbrev Zi0:=Spec.shp Zd5 Zfl Z2k
def Z8p:Ctx:=mC [(179,[113],Spec.thin (Zi3))] [] 9 1
theorem Z2l:Sound Tryz.prog 112 (Zi0) :=
 tS Z8p Tryz.f112 ⟨Z2r.thin,trivial⟩
abbrev Ze8:Shape:=⟨[(0,(.fn 70 .nil .nil)),(1,(.hole (.slice y1)))],[],[(.slice y1)],0⟩
abbrev Zgo:Shape:=⟨sl_1,[],ts_1,0⟩
def Z4s (x:(List (List Int))):Option (Bool) :=
 (Z2k x).bind fun r11 =>
 some (Bool.not r11)
abbrev Zj3:=Spec.shp Ze8 Zgo Z4s
def Z9z:Ctx:=mC [(112,[113],Spec.thin (Zi0))] [] 9 0
theorem Z4t:Sound Tryz.prog 69 (Zj3) :=
 tS Z9z Tryz.f69 ⟨Z2l.thin,trivial⟩
abbrev Zea:Shape:=⟨sl_11,[],[y1],0⟩
abbrev Zgq:Shape:=⟨[(0,(.hole y3))],[],[y3],0⟩
def Z4w (x:(List Int)):Option (List Int) :=
 some (over ((0:Int) :: ((0:Int) :: ((0:Int) :: ((0:Int) :: ((0:Int) :: ((0:Int) :: ((0:Int) :: ((0:Int) :: ((0:Int) :: ((0:Int) :: ((0:Int) :: ((0:Int) :: ((0:Int) :: ((0:Int) :: ((0:Int) :: ((0:Int) :: ([]:List Int))))))))))))))))) x (0:Nat) (lenMin (@Ty.int Go.IntKind.i64) x 16))
abbrev Zj5:=Spec.shp Zea Zgq Z4w
def Za2:Ctx:=mC [] [] 7 0
theorem Z4x:Sound Tryz.prog 71 (Zj5) :=
 tS Za2 Tryz.f71 trivial
abbrev Zbt:Shape:=⟨sl_13,[.var (.hole y3)],[y1,(.int .i64),(.int .i64),y3],0⟩
abbrev Zax:List (ETag × Shape):=[(.exit 0,⟨[(6,(.ptr 0 []))],[.var (.hole y3)],[y3],0⟩)]
def Z6m (x:T14):Option (T14 ⊕ (List Int)) :=
 bif (decide (x.2.2.1 < x.2.1)) then
 bif (inb x.2.2.1 (List.length x.1)) then
 bif (inb x.2.2.1 16) then
 bif (inb x.2.2.1 16) then
 some (.inl (x.1,x.2.1,(IntKind.wrap .i64 (x.2.2.1+(1:Int))),(List.set x.2.2.2 (toN x.2.2.1) (Max.max (getAt (0:Int) x.2.2.2 (toN x.2.2.1)) (getAt (0:Int) x.1 (toN x.2.2.1))))))
 else
 none
 else
 none
 else
 none
 else
 some (.inr x.2.2.2)
def Z9s:Ctx:=mC [(69,[70,2000000],Zj3),(71,[],Zj5)] [] 33 0
theorem Z6n:CSound Tryz.prog ⟨33,0,true⟩ (.loop (loopOf 6 Tryz.f110)) (pieceSpec Zbt Zax (loop Z6m)) :=
 tL Z9s 6 Tryz.f110 ⟨Z4t,Z4x,trivial⟩
abbrev Zbu:Shape:=⟨[(1,(.ptr 0 [])),(3,(.hole (.int .i64)))],[.var (.hole y3)],[(.int .i64),y3],0⟩
abbrev Zay:List (ETag × Shape):=[(.exit 0,⟨[(1,(.ptr 0 [])),(3,(.hole (.int .i64)))],[.var (.hole y3)],[(.int .i64),y3],0⟩)]
def Z6o (x:T2):Option (T2 ⊕ T2) :=
 bif (decide (x.1 > (0:Int))) then
 bif (inb (IntKind.wrap .i64 (x.1 - (1:Int))) 16) then
 bif ((getAt (0:Int) x.2 (toN (IntKind.wrap .i64 (x.1 - (1:Int))))) == (0:Int)) then
 some (.inl ((IntKind.wrap .i64 (x.1 - (1:Int))),x.2))
 else
 some (.inr (x.1,x.2))
 else
 none
 else
 some (.inr (x.1,x.2))
def Za1:Ctx:=mC [] [] 18 0
theorem Z6p:CSound Tryz.prog ⟨18,0,true⟩ (.loop (loopOf 3 Tryz.f111)) (pieceSpec Zbu Zay (loop Z6o)) :=
 tL Za1 3 Tryz.f111 trivial
abbrev Zd4:Shape:=⟨sl_11,[],[y1],0⟩
abbrev Zfk:Shape:=⟨[(0,(.sl 0))],bl_9,[y1],0⟩
def Z2i (x:(List Int)):Option (List Int) :=
 bif (Nat.beq (List.length x) (0:Nat)) then
 amb (
 some ([]:List Int)) (
 bif (fits ((List.length ([]:List Int))+(List.length x))) then
 some (([]:List Int)++x)
 else
 none)
 else
 bif (fits ((List.length ([]:List Int))+(List.length x))) then
 some (([]:List Int)++x)
 else
 none
abbrev Zhz:=Spec.shp Zd4 Zfk Z2i
def Z8o:Ctx:=mC [] [] 8 0
theorem Z2j:Sound Tryz.prog 178 (Zhz) :=
 tS Z8o Tryz.f178 trivial
abbrev Ze9:Shape:=⟨[(0,(.hole y3))],[],[y3],0⟩
abbrev Zgp:Shape:=⟨sl_11,[],[y1],0⟩
def Z4u (x:(List Int)):Option (List Int) :=
 (loop Z6o ((16:Int),x)).bind fun r14 =>
 bif (sub3 (0:Int) r14.1 (16:Nat)) then
 (Z2i (cut r14.2 (0:Nat) (toN r14.1))).bind fun r15 =>
 some r15
 else
 none
abbrev Zj4:=Spec.shp Ze9 Zgp Z4u
def Za0:Ctx:=mC [(178,[],Zhz)] [(0,3,pieceSpec Zbu Zay (loop Z6o))] 18 0
theorem Z4v:Sound Tryz.prog 111 (Zj4) :=
 tS Za0 Tryz.f111 ⟨Z2j,trivial⟩ ⟨(pL 3 Tryz.f111 Z6p),trivial⟩
abbrev Ze1:Shape:=⟨[(0,(.hole y1)),(1,(.hole y1))],[],[y1,y1],0⟩
abbrev Zgh:Shape:=⟨sl_14,[],ts_13,0⟩
def Z4e (x:T9):Option T3 :=
 (Z4s (x.1 :: (x.2 :: ([]:List (List Int))))).bind fun r10 =>
 bif (Bool.not r10) then
 some (([]:List Int),(1:Int))
 else
 (Z4w x.1).bind fun r11 =>
 (loop Z6m (x.2,(((List.length x.2):Nat):Int),(0:Int),r11)).bind fun r12 =>
 (Z4u r12).bind fun r13 =>
 some (r13,(0:Int))
abbrev Ziw:=Spec.shp Ze1 Zgh Z4e
def Z9r:Ctx:=mC [(69,[70,2000000],Zj3),(71,[],Zj5),(111,[],Zj4)] [(0,6,pieceSpec Zbt Zax (loop Z6m))] 33 0
theorem Z4f:Sound Tryz.prog 110 (Ziw) :=
 tS Z9r Tryz.f110 ⟨Z4t,Z4x,Z4v,trivial⟩ ⟨(pL 6 Tryz.f110 Z6n),trivial⟩
abbrev Zdd:Shape:=⟨[(0,(.hole y1)),(1,(.ptr 0 []))],[.var (.hole y1)],[y1,y1],0⟩
abbrev Zft:Shape:=⟨sl_11,[.var (.hole y1)],[y1,y1],1⟩
def Z2z (x:T9):Option T9 :=
 (Z4e (x.2,x.1)).bind fun r9 =>
 some (r9.1,r9.1)
abbrev Zi8:=Spec.shp Zdd Zft Z2z
def Z92:Ctx:=mC [(110,[],Ziw)] [] 11 1
theorem Z30:Sound Tryz.prog 109 (Zi8) :=
 tS Z92 Tryz.f109 ⟨Z4f,trivial⟩
abbrev Zbq:Shape:=⟨[(6,(.hole (.slice y1))),(8,(.sl 2)),(10,(.ptr 0 [])),(11,(.fn 109 .nil (.cons (.ptr 1 []) .nil))),(12,(.hole y1)),(27,(.hole y36)),(28,(.hole (.int .i64))),(29,(.hole (.int .i64))),(40,(.hole y1)),(41,(.hole (.int .i64))),(42,(.hole (.int .i64)))],[.var (.hole y31),.var (.hole y1),.row y1],[(.slice y1),y1,y36,(.int .i64),(.int .i64),y1,(.int .i64),(.int .i64),y31,y1,(.slice y1)],0⟩
abbrev Zau:List (ETag × Shape):=[(.exit 2,⟨[(6,(.hole (.slice y1))),(8,(.sl 1)),(10,(.ptr 0 [])),(12,(.hole y1)),(27,(.hole y36)),(28,(.hole (.int .i64))),(29,(.hole (.int .i64)))],[.var (.hole y31),.row y1],[(.slice y1),y1,y36,(.int .i64),(.int .i64),y31,(.slice y1)],0⟩)]
def Z6g (x:(List (List Int) × List Int × List (T20) × Int × Int × List Int × Int × Int × T20 × List Int × List (List Int))):Option ((List (List Int) × List Int × List (T20) × Int × Int × List Int × Int × Int × T20 × List Int × List (List Int)) ⊕ (List (List Int) × List Int × List (T20) × Int × Int × T20 × List (List Int))) :=
 bif (decide (x.2.2.2.2.2.2.2.1 < x.2.2.2.2.2.2.1)) then
 bif (inb x.2.2.2.2.2.2.2.1 (List.length x.2.2.2.2.2.1)) then
 bif (inb (getAt (0:Int) x.2.2.2.2.2.1 (toN x.2.2.2.2.2.2.2.1)) (List.length x.2.2.2.2.2.2.2.2.2.2)) then
 (Z2z ((getAt ([]:List Int) x.2.2.2.2.2.2.2.2.2.2 (toN (getAt (0:Int) x.2.2.2.2.2.1 (toN x.2.2.2.2.2.2.2.1)))),x.2.2.2.2.2.2.2.2.2.1)).bind fun r10 =>
 some (.inl (x.1,r10.1,x.2.2.1,x.2.2.2.1,x.2.2.2.2.1,x.2.2.2.2.2.1,x.2.2.2.2.2.2.1,(IntKind.wrap .i64 (x.2.2.2.2.2.2.2.1+(1:Int))),x.2.2.2.2.2.2.2.2.1,r10.2,x.2.2.2.2.2.2.2.2.2.2))
 else
 none
 else
 none
 else
 some (.inr (x.1,x.2.1,x.2.2.1,x.2.2.2.1,x.2.2.2.2.1,x.2.2.2.2.2.2.2.2.1,x.2.2.2.2.2.2.2.2.2.2))
def Z8z:Ctx:=mC [(15,[],Zgr),(67,[],Zi7),(109,[],Zi8)] [] 71 0
theorem Z6h:CSound Tryz.prog ⟨71,0,true⟩ (.loop (loopOf 12 Tryz.f19)) (pieceSpec Zbq Zau (loop Z6g)) :=
 tL Z8z 12 Tryz.f19 ⟨Z1,Z31,Z30,trivial⟩
abbrev Ze0:Shape:=⟨sl_14,[],ts_13,0⟩
abbrev Zgg:Shape:=⟨sl_10,[],ts_8,0⟩
def Z4c (x:T3):Option (Int × Int) :=
 (Z4g x.1).bind fun r12 =>
 bif (Bool.not r12) then
 some ((0:Int),(1:Int))
 else
 bif (decide (x.2 < (0:Int))) then
 some ((0:Int),(3:Int))
 else
 bif (decide (x.2 ≥ (16:Int))) then
 some ((0:Int),(3:Int))
 else
 (Z4w x.1).bind fun r13 =>
 bif (inb x.2 (16:Nat)) then
 some ((getAt (0:Int) r13 (toN x.2)),(0:Int))
 else
 none
abbrev Ziv:=Spec.shp Ze0 Zgg Z4c
def Z9q:Ctx:=mC [(70,[],Zix),(71,[],Zj5)] [] 21 0
theorem Z4d:Sound Tryz.prog 79 (Ziv) :=
 tS Z9q Tryz.f79 ⟨Z4j,Z4x,trivial⟩
abbrev Ze4:Shape:=⟨sl_14,[],ts_13,0⟩
abbrev Zgk:Shape:=⟨sl_14,[],ts_13,0⟩
def Z4k (x:T3):Option T3 :=
 (Z4c (x.1,x.2)).bind fun r11 =>
 bif (r11.2 != (0:Int)) then
 some (([]:List Int),r11.2)
 else
 bif (r11.1 == (1099511627776:Int)) then
 some (([]:List Int),(8:Int))
 else
 (Z4w x.1).bind fun r12 =>
 bif (inb x.2 16) then
 bif (inb x.2 16) then
 (Z4u (List.set r12 (toN x.2) (IntKind.wrap .i64 ((getAt (0:Int) r12 (toN x.2))+(1:Int))))).bind fun r13 =>
 some (r13,(0:Int))
 else
 none
 else
 none
abbrev Ziz:=Spec.shp Ze4 Zgk Z4k
def Z9v:Ctx:=mC [(79,[],Ziv),(71,[],Zj5),(111,[],Zj4)] [] 31 0
theorem Z4l:Sound Tryz.prog 68 (Ziz) :=
 tS Z9v Tryz.f68 ⟨Z4d,Z4x,Z4v,trivial⟩
abbrev Zbr:Shape:=⟨[(6,(.hole (.slice y1))),(8,(.sl 0)),(27,(.hole y36)),(28,(.hole (.int .i64))),(29,(.hole (.int .i64)))],[.row y1],[(.slice y1),y36,(.int .i64),(.int .i64),(.slice y1)],0⟩
abbrev Zav:List (ETag × Shape):=[(.exit 0,⟨[(8,(.sl 0))],[.row y1],[(.slice y1)],0⟩)]
def Z6i (x:(List (List Int) × List (T20) × Int × Int × List (List Int))):Option ((List (List Int) × List (T20) × Int × Int × List (List Int)) ⊕ (List (List Int))) :=
 bif (decide (x.2.2.2.1 < x.2.2.1)) then
 bif (inb x.2.2.2.1 (List.length x.2.1)) then
 (Z2y ()).bind fun r7 =>
 (Z2z (([]:List Int),([]:List Int))).bind fun r8 =>
 bif (inb x.2.2.2.1 (List.length x.1)) then
 (loop Z6g (x.1,r8.1,x.2.1,x.2.2.1,x.2.2.2.1,(getAt ([]:List Int) x.1 (toN x.2.2.2.1)),(((List.length (getAt ([]:List Int) x.1 (toN x.2.2.2.1))):Nat):Int),(0:Int),(getAt ((0:Int),(0:Int),(0:Int),(0:Int),(0:Int)) x.2.1 (toN x.2.2.2.1)),r8.2,x.2.2.2.2)).bind fun r9 =>
 (Z4k (r9.2.1,r9.2.2.2.2.2.1.1)).bind fun r10 =>
 bif (Bool.and (sub3 (0:Int) (((List.length r10.1):Nat):Int) (List.length r10.1)) (sub3 (((List.length r10.1):Nat):Int) (((List.length r10.1):Nat):Int) (List.length r10.1))) then
 bif (fits ((List.length r9.2.2.2.2.2.2)+(List.length ((cut r10.1 (toN (0:Int)) ((toN (((List.length r10.1):Nat):Int)) - (toN (0:Int)))) :: ([]:List (List Int)))))) then
 some (.inl (r9.1,r9.2.2.1,r9.2.2.2.1,(IntKind.wrap .i64 (r9.2.2.2.2.1+(1:Int))),(r9.2.2.2.2.2.2++((cut r10.1 (toN (0:Int)) ((toN (((List.length r10.1):Nat):Int)) - (toN (0:Int)))) :: ([]:List (List Int))))))
 else
 none
 else
 none
 else
 none
 else
 none
 else
 some (.inr x.2.2.2.2)
def Z90:Ctx:=mC [(15,[],Zgr),(67,[],Zi7),(109,[],Zi8),(68,[],Ziz)] [(0,12,pieceSpec Zbq Zau (loop Z6g))] 71 0
theorem Z6j:CSound Tryz.prog ⟨71,0,true⟩ (.loop (loopOf 7 Tryz.f19)) (pieceSpec Zbr Zav (loop Z6i)) :=
 tL Z90 7 Tryz.f19 ⟨Z1,Z31,Z30,Z4l,trivial⟩ ⟨(pL 12 Tryz.f19 Z6h),trivial⟩
abbrev Zdb:Shape:=⟨sl_9,[],[y1,y36],0⟩
abbrev Zfr:Shape:=⟨[(0,(.hole (.slice y1))),(1,(.hole (.int .i64)))],[],[(.slice y1),(.int .i64)],0⟩
def Z2w (x:T36):Option (List (List Int) × Int) :=
 (Z0 (x.1,x.2)).bind fun r5 =>
 bif (r5.2 != (0:Int)) then
 some (([]:List (List Int)),r5.2)
 else
 bif (mkOK (0:Int) (((List.length x.2):Nat):Int)) then
 (loop Z6i (r5.1,x.2,(((List.length x.2):Nat):Int),(0:Int),(List.replicate (toN (0:Int)) ([]:List Int)))).bind fun r6 =>
 some (r6,(0:Int))
 else
 none
abbrev Zi6:=Spec.shp Zdb Zfr Z2w
def Z8y:Ctx:=mC [(15,[],Zgr),(67,[],Zi7),(109,[],Zi8),(68,[],Ziz)] [(0,12,pieceSpec Zbq Zau (loop Z6g)),(0,7,pieceSpec Zbr Zav (loop Z6i))] 71 0
theorem Z2x:Sound Tryz.prog 19 (Zi6) :=
 tS Z8y Tryz.f19 ⟨Z1,Z31,Z30,Z4l,trivial⟩ ⟨(pL 12 Tryz.f19 Z6h),(pL 7 Tryz.f19 Z6j),trivial⟩
abbrev Zc3:Shape:=⟨sl_10,[],ts_8,0⟩
abbrev Zej:Shape:=⟨sl_10,[],ts_8,0⟩
def Zg (x:(Int × Int)):Option (Int × Int) :=
 bif (decide (x.1 < (0:Int))) then
 some ((0:Int),(1:Int))
 else
 bif (decide (x.1 > (1099511627776:Int))) then
 some ((0:Int),(1:Int))
 else
 bif (decide (x.2 < (0:Int))) then
 some ((0:Int),(3:Int))
 else
 bif (decide (x.2 > (15:Int))) then
 some ((0:Int),(3:Int))
 else
 some ((intBits .i64 (shlI Go.IntKind.i64 x.1 (4:Int)) x.2 (fun x y=>x ||| y)),(0:Int))
abbrev Zgy:=Spec.shp Zc3 Zej Zg
def Z71:Ctx:=mC [] [] 24 0
theorem Zh:Sound Tryz.prog 34 (Zgy) :=
 tS Z71 Tryz.f34 trivial
abbrev Zb5:Shape:=⟨[(4,(.ptr 0 [])),(6,(.hole (.slice y1))),(8,(.ptr 1 [])),(27,(.hole y36)),(28,(.hole (.int .i64))),(29,(.hole (.int .i64)))],bl_10,[(.slice y1),y36,(.int .i64),(.int .i64),(.slice y1),y1],0⟩
abbrev Za9:List (ETag × Shape):=[(.exit 0,⟨[(4,(.ptr 0 [])),(8,(.ptr 1 []))],bl_10,[(.slice y1),y1],0⟩)]
def Z5a (x:(List (List Int) × List (T20) × Int × Int × List (List Int) × List Int)):Option ((List (List Int) × List (T20) × Int × Int × List (List Int) × List Int) ⊕ (T11)) :=
 bif (decide (x.2.2.2.1 < x.2.2.1)) then
 bif (inb x.2.2.2.1 (List.length x.2.1)) then
 bif (inb x.2.2.2.1 (List.length x.1)) then
 (Z4c ((getAt ([]:List Int) x.1 (toN x.2.2.2.1)),(getAt ((0:Int),(0:Int),(0:Int),(0:Int),(0:Int)) x.2.1 (toN x.2.2.2.1)).1)).bind fun r6 =>
 (Zg (r6.1,(getAt ((0:Int),(0:Int),(0:Int),(0:Int),(0:Int)) x.2.1 (toN x.2.2.2.1)).1)).bind fun r7 =>
 bif (fits ((List.length x.2.2.2.2.2)+(List.length (r7.1 :: ([]:List Int))))) then
 some (.inl (x.1,x.2.1,x.2.2.1,(IntKind.wrap .i64 (x.2.2.2.1+(1:Int))),x.2.2.2.2.1,(x.2.2.2.2.2++(r7.1 :: ([]:List Int)))))
 else
 none
 else
 none
 else
 none
 else
 some (.inr (x.2.2.2.2.1,x.2.2.2.2.2))
def Z7b:Ctx:=mC [(19,[],Zi6),(79,[],Ziv),(34,[],Zgy)] [] 59 0
theorem Z5b:CSound Tryz.prog ⟨59,0,true⟩ (.loop (loopOf 7 Tryz.f72)) (pieceSpec Zb5 Za9 (loop Z5a)) :=
 tL Z7b 7 Tryz.f72 ⟨Z2x,Z4d,Zh,trivial⟩
abbrev Zc9:Shape:=⟨sl_9,[],[y1,y36],0⟩
abbrev Zep:Shape:=⟨[(0,(.hole y11)),(1,(.hole (.int .i64)))],[],[y11,(.int .i64)],0⟩
def Zs (x:T36):Option (T11 × Int) :=
 (Z2w (x.1,x.2)).bind fun r4 =>
 bif (r4.2 != (0:Int)) then
 some ((([]:List (List Int)),([]:List Int)),r4.2)
 else
 (loop Z5a (r4.1,x.2,(((List.length x.2):Nat):Int),(0:Int),r4.1,([]:List Int))).bind fun r5 =>
 some ((r5.1,r5.2),(0:Int))
abbrev Zh4:=Spec.shp Zc9 Zep Zs
def Z7a:Ctx:=mC [(19,[],Zi6),(79,[],Ziv),(34,[],Zgy)] [(0,7,pieceSpec Zb5 Za9 (loop Z5a))] 59 0
theorem Zt:Sound Tryz.prog 72 (Zh4) :=
 tS Z7a Tryz.f72 ⟨Z2x,Z4d,Zh,trivial⟩ ⟨(pL 7 Tryz.f72 Z5b),trivial⟩
abbrev Zcb:Shape:=⟨[(0,(.hole y11)),(1,(.hole (.int .i64)))],[],[y11,(.int .i64)],0⟩
abbrev Zer:Shape:=⟨sl_1,[],ts_1,0⟩
def Zw (x:(T11 × Int)):Option (Bool) :=
 bif (decide (x.2 ≥ (0:Int))) then
 some (decide (x.2 < (((List.length x.1.1):Nat):Int)))
 else
 some false
abbrev Zh6:=Spec.shp Zcb Zer Zw
def Z7d:Ctx:=mC [] [] 14 0
theorem Zx:Sound Tryz.prog 73 (Zh6) :=
 tS Z7d Tryz.f73 trivial
abbrev Zc4:Shape:=⟨sl_2,[],ts_2,0⟩
abbrev Zek:Shape:=⟨sl_0,[],ts_0,0⟩
def Zi (x:(Int)):Option T4 :=
 bif (decide (x < (0:Int))) then
 some ((0:Int),(0:Int),(1:Int))
 else
 bif (decide (x > (17592186044431:Int))) then
 some ((0:Int),(0:Int),(1:Int))
 else
 some ((shrI Go.IntKind.i64 x (4:Int)),(intBits .i64 x (15:Int) (fun x y=>x &&& y)),(0:Int))
abbrev Zgz:=Spec.shp Zc4 Zek Zi
def Z72:Ctx:=mC [] [] 15 0
theorem Zj:Sound Tryz.prog 78 (Zgz) :=
 tS Z72 Tryz.f78 trivial
abbrev Zc2:Shape:=⟨[(0,(.hole (.int .i64))),(1,(.hole y1))],[],[(.int .i64),y1],0⟩
abbrev Zei:Shape:=⟨sl_15,[],ts_14,0⟩
def Ze (x:T2):Option T1 :=
 (Zi x.1).bind fun r8 =>
 bif (r8.2.2 != (0:Int)) then
 some (false,r8.2.2)
 else
 (Z4c (x.2,r8.2.1)).bind fun r9 =>
 bif (r9.2 == (0:Int)) then
 some ((decide (r8.1 ≤ r9.1)),r9.2)
 else
 some (false,r9.2)
abbrev Zgx:=Spec.shp Zc2 Zei Ze
def Z70:Ctx:=mC [(78,[],Zgz),(79,[],Ziv)] [] 33 0
theorem Zf:Sound Tryz.prog 35 (Zgx) :=
 tS Z70 Tryz.f35 ⟨Zj,Z4d,trivial⟩
abbrev Zca:Shape:=⟨[(0,(.hole y11)),(1,(.hole (.int .i64))),(2,(.hole (.int .i64)))],[],[y11,(.int .i64),(.int .i64)],0⟩
abbrev Zeq:Shape:=⟨sl_1,[],ts_1,0⟩
def Zu (x:(T11 × Int × Int)):Option (Bool) :=
 bif (inb x.2.1 (List.length x.1.2)) then
 bif (inb x.2.2 (List.length x.1.1)) then
 (Ze ((getAt (0:Int) x.1.2 (toN x.2.1)),(getAt ([]:List Int) x.1.1 (toN x.2.2)))).bind fun r7 =>
 bif r7.1 then
 some (x.2.1 != x.2.2)
 else
 some false
 else
 none
 else
 none
abbrev Zh5:=Spec.shp Zca Zeq Zu
def Z7c:Ctx:=mC [(35,[],Zgx)] [] 29 0
theorem Zv:Sound Tryz.prog 74 (Zh5) :=
 tS Z7c Tryz.f74 ⟨Zf,trivial⟩
abbrev Zc6:Shape:=⟨sl_16,[],ts_15,0⟩
abbrev Zem:Shape:=⟨sl_15,[],ts_14,0⟩
def Zm (x:T41):Option T1 :=
 (Zs (x.1,x.2.1)).bind fun r3 =>
 bif (r3.2 != (0:Int)) then
 some (false,r3.2)
 else
 (Zw (r3.1,x.2.2.1)).bind fun r4 =>
 bif (Bool.not r4) then
 some (false,(3:Int))
 else
 (Zw (r3.1,x.2.2.2)).bind fun r5 =>
 bif (Bool.not r5) then
 some (false,(3:Int))
 else
 (Zu (r3.1,x.2.2.1,x.2.2.2)).bind fun r6 =>
 some (r6,(0:Int))
abbrev Zh1:=Spec.shp Zc6 Zem Zm
def Z74:Ctx:=mC [(72,[],Zh4),(73,[],Zh6),(74,[],Zh5)] [] 37 0
theorem Zn:Sound Tryz.prog 22 (Zh1) :=
 tS Z74 Tryz.f22 ⟨Zt,Zx,Zv,trivial⟩
abbrev Zc5:Shape:=⟨sl_16,[],ts_15,0⟩
abbrev Zel:Shape:=⟨sl_15,[],ts_14,0⟩
def Zk (x:T41):Option T1 :=
 (Zs (x.1,x.2.1)).bind fun r4 =>
 bif (r4.2 != (0:Int)) then
 some (false,r4.2)
 else
 (Zw (r4.1,x.2.2.1)).bind fun r5 =>
 bif (Bool.not r5) then
 some (false,(3:Int))
 else
 (Zw (r4.1,x.2.2.2)).bind fun r6 =>
 bif (Bool.not r6) then
 some (false,(3:Int))
 else
 bif (x.2.2.1 != x.2.2.2) then
 (Zu (r4.1,x.2.2.1,x.2.2.2)).bind fun r7 =>
 bif (Bool.not r7) then
 (Zu (r4.1,x.2.2.2,x.2.2.1)).bind fun r8 =>
 some ((Bool.not r8),(0:Int))
 else
 some (false,(0:Int))
 else
 some (false,(0:Int))
abbrev Zh0:=Spec.shp Zc5 Zel Zk
def Z73:Ctx:=mC [(72,[],Zh4),(73,[],Zh6),(74,[],Zh5)] [] 50 0
theorem Zl:Sound Tryz.prog 23 (Zh0) :=
 tS Z73 Tryz.f23 ⟨Zt,Zx,Zv,trivial⟩
abbrev Zb4:Shape:=⟨[(2,(.hole (.int .i64))),(8,(.ptr 0 [])),(10,(.sl 1)),(27,(.hole (.int .i64))),(28,(.hole (.int .i64)))],bl_11,[(.int .i64),(.int .i64),(.int .i64),y11,y1],0⟩
abbrev Za8:List (ETag × Shape):=[(.exit 1,⟨[(10,(.sl 0))],bl_9,[y1],0⟩)]
def Z58 (x:(Int × Int × Int × T11 × List Int)):Option ((Int × Int × Int × T11 × List Int) ⊕ (List Int)) :=
 bif (decide (x.2.2.1 < x.2.1)) then
 (Zu (x.2.2.2.1,x.2.2.1,x.1)).bind fun r8 =>
 bif r8 then
 bif (fits ((List.length x.2.2.2.2)+(List.length (x.2.2.1 :: ([]:List Int))))) then
 some (.inl (x.1,x.2.1,(IntKind.wrap .i64 (x.2.2.1+(1:Int))),x.2.2.2.1,(x.2.2.2.2++(x.2.2.1 :: ([]:List Int)))))
 else
 none
 else
 some (.inl (x.1,x.2.1,(IntKind.wrap .i64 (x.2.2.1+(1:Int))),x.2.2.2.1,x.2.2.2.2))
 else
 some (.inr x.2.2.2.2)
def Z79:Ctx:=mC [(72,[],Zh4),(73,[],Zh6),(74,[],Zh5)] [] 41 0
theorem Z59:CSound Tryz.prog ⟨41,0,true⟩ (.loop (loopOf 9 Tryz.f24)) (pieceSpec Zb4 Za8 (loop Z58)) :=
 tL Z79 9 Tryz.f24 ⟨Zt,Zx,Zv,trivial⟩
abbrev Zc8:Shape:=⟨sl_17,[],ts_16,0⟩
abbrev Zeo:Shape:=⟨sl_14,[],ts_13,0⟩
def Zq (x:T38):Option T3 :=
 (Zs (x.1,x.2.1)).bind fun r5 =>
 bif (r5.2 != (0:Int)) then
 some (([]:List Int),r5.2)
 else
 (Zw (r5.1,x.2.2)).bind fun r6 =>
 bif (Bool.not r6) then
 some (([]:List Int),(3:Int))
 else
 (loop Z58 (x.2.2,x.2.2,(0:Int),r5.1,([]:List Int))).bind fun r7 =>
 some (r7,(0:Int))
abbrev Zh3:=Spec.shp Zc8 Zeo Zq
def Z78:Ctx:=mC [(72,[],Zh4),(73,[],Zh6),(74,[],Zh5)] [(0,9,pieceSpec Zb4 Za8 (loop Z58))] 41 0
theorem Zr:Sound Tryz.prog 24 (Zh3) :=
 tS Z78 Tryz.f24 ⟨Zt,Zx,Zv,trivial⟩ ⟨(pL 9 Tryz.f24 Z59),trivial⟩
abbrev Zb2:Shape:=⟨[(1,(.hole y36)),(6,(.ptr 0 [])),(8,(.sl 1)),(9,(.hole (.int .i64))),(10,(.hole (.int .i64))),(21,(.hole (.int .i64))),(22,(.hole (.int .i64)))],bl_11,[y36,(.int .i64),(.int .i64),(.int .i64),(.int .i64),y11,y1],0⟩
abbrev Za6:List (ETag × Shape):=[(.exit 1,⟨sl_18,bl_11,[y36,(.int .i64),(.int .i64),y11,y1],0⟩),(.exit 2,⟨[(1,(.hole y36)),(6,(.ptr 0 [])),(8,(.sl 1)),(9,(.hole (.int .i64))),(21,(.hole (.int .i64))),(22,(.hole (.int .i64)))],bl_11,[y36,(.int .i64),(.int .i64),(.int .i64),y11,y1],0⟩)]
def Z54 (x:(List (T20) × Int × Int × Int × Int × T11 × List Int)):Option ((List (T20) × Int × Int × Int × Int × T11 × List Int) ⊕ ((List (T20) × Int × Int × T11 × List Int) ⊕ (List (T20) × Int × Int × Int × T11 × List Int))) :=
 bif (decide (x.2.2.1 < (((List.length x.1):Nat):Int))) then
 (Zu (x.2.2.2.2.2.1,x.2.1,x.2.2.1)).bind fun r9 =>
 bif r9 then
 some (.inr (.inl (x.1,x.2.2.2.1,x.2.2.2.2.1,x.2.2.2.2.2.1,x.2.2.2.2.2.2)))
 else
 some (.inl (x.1,x.2.1,(IntKind.wrap .i64 (x.2.2.1+(1:Int))),x.2.2.2.1,x.2.2.2.2.1,x.2.2.2.2.2.1,x.2.2.2.2.2.2))
 else
 some (.inr (.inr (x.1,x.2.1,x.2.2.2.1,x.2.2.2.2.1,x.2.2.2.2.2.1,x.2.2.2.2.2.2)))
def Z76:Ctx:=mC [(72,[],Zh4),(74,[],Zh5)] [] 43 0
theorem Z55:CSound Tryz.prog ⟨43,0,true⟩ (.loop (loopOf 10 Tryz.f25)) (pieceSpec Zb2 Za6 (loop Z54)) :=
 tL Z76 10 Tryz.f25 ⟨Zt,Zv,trivial⟩
abbrev Zb3:Shape:=⟨sl_18,bl_11,[y36,(.int .i64),(.int .i64),y11,y1],0⟩
abbrev Za7:List (ETag × Shape):=[(.exit 0,⟨[(8,(.sl 0))],bl_9,[y1],0⟩)]
def Z56 (x:(List (T20) × Int × Int × T11 × List Int)):Option ((List (T20) × Int × Int × T11 × List Int) ⊕ (List Int)) :=
 bif (decide (x.2.2.1 < x.2.1)) then
 (loop Z54 (x.1,x.2.2.1,(IntKind.wrap .i64 (x.2.2.1+(1:Int))),x.2.1,x.2.2.1,x.2.2.2.1,x.2.2.2.2)).bind fun r8 =>
 match r8 with
 | .inl y9 =>
 some (.inl (y9.1,y9.2.1,(IntKind.wrap .i64 (y9.2.2.1+(1:Int))),y9.2.2.2.1,y9.2.2.2.2))
 | .inr y9 =>
 bif (fits ((List.length y9.2.2.2.2.2)+(List.length (y9.2.1 :: ([]:List Int))))) then
 some (.inl (y9.1,y9.2.2.1,(IntKind.wrap .i64 (y9.2.2.2.1+(1:Int))),y9.2.2.2.2.1,(y9.2.2.2.2.2++(y9.2.1 :: ([]:List Int)))))
 else
 none
 else
 some (.inr x.2.2.2.2)
def Z77:Ctx:=mC [(72,[],Zh4),(74,[],Zh5)] [(0,10,pieceSpec Zb2 Za6 (loop Z54))] 43 0
theorem Z57:CSound Tryz.prog ⟨43,0,true⟩ (.loop (loopOf 7 Tryz.f25)) (pieceSpec Zb3 Za7 (loop Z56)) :=
 tL Z77 7 Tryz.f25 ⟨Zt,Zv,trivial⟩ ⟨(pL 10 Tryz.f25 Z55),trivial⟩
abbrev Zc7:Shape:=⟨sl_9,[],[y1,y36],0⟩
abbrev Zen:Shape:=⟨sl_14,[],ts_13,0⟩
def Zo (x:T36):Option T3 :=
 (Zs (x.1,x.2)).bind fun r6 =>
 bif (r6.2 != (0:Int)) then
 some (([]:List Int),r6.2)
 else
 (loop Z56 (x.2,(((List.length x.2):Nat):Int),(0:Int),r6.1,([]:List Int))).bind fun r7 =>
 some (r7,(0:Int))
abbrev Zh2:=Spec.shp Zc7 Zen Zo
def Z75:Ctx:=mC [(72,[],Zh4),(74,[],Zh5)] [(0,10,pieceSpec Zb2 Za6 (loop Z54)),(0,7,pieceSpec Zb3 Za7 (loop Z56))] 43 0
theorem Zp:Sound Tryz.prog 25 (Zh2) :=
 tS Z75 Tryz.f25 ⟨Zt,Zv,trivial⟩ ⟨(pL 10 Tryz.f25 Z55),(pL 7 Tryz.f25 Z57),trivial⟩
abbrev Zb7:Shape:=⟨[(0,(.hole y1)),(5,(.hole y1)),(6,(.hole (.int .i64))),(7,(.hole (.int .i64)))],[],[y1,y1,(.int .i64),(.int .i64)],0⟩
abbrev Zab:List (ETag × Shape):=[(.ret,⟨[(2,(.hole .bool))],[],ts_1,0⟩),(.exit 0,⟨sl_11,[],[y1],0⟩)]
def Z5e (x:T15):Option (T15 ⊕ ((Bool) ⊕ (List Int))) :=
 bif (decide (x.2.2.2 < x.2.2.1)) then
 bif (inb x.2.2.2 (List.length x.2.1)) then
 bif (decide ((getAt (0:Int) x.2.1 (toN x.2.2.2)) < (Int.negSucc 0))) then
 some (.inr (.inl false))
 else
 bif (decide ((getAt (0:Int) x.2.1 (toN x.2.2.2)) > (3:Int))) then
 some (.inr (.inl false))
 else
 some (.inl (x.1,x.2.1,x.2.2.1,(IntKind.wrap .i64 (x.2.2.2+(1:Int)))))
 else
 none
 else
 some (.inr (.inr x.1))
def Z7l:Ctx:=mC [] [] 21 0
theorem Z5f:CSound Tryz.prog ⟨21,0,true⟩ (.loop (loopOf 3 Tryz.f75)) (pieceSpec Zb7 Zab (loop Z5e)) :=
 tL Z7l 3 Tryz.f75 trivial
abbrev Zcg:Shape:=⟨sl_11,[],[y1],0⟩
abbrev Zew:Shape:=⟨sl_1,[],ts_1,0⟩
def Z16 (x:(List Int)):Option (Bool) :=
 (loop Z5e (x,x,(((List.length x):Nat):Int),(0:Int))).bind fun r8 =>
 match r8 with
 | .inl y9 =>
 some y9
 | .inr y9 =>
 some (decide ((((List.length y9):Nat):Int) ≤ (4:Int)))
abbrev Zhb:=Spec.shp Zcg Zew Z16
def Z7k:Ctx:=mC [] [(0,3,pieceSpec Zb7 Zab (loop Z5e))] 21 0
theorem Z17:Sound Tryz.prog 75 (Zhb) :=
 tS Z7k Tryz.f75 trivial ⟨(pL 3 Tryz.f75 Z5f),trivial⟩
abbrev Zcu:Shape:=⟨sl_19,[],[y36,(.int .i64)],0⟩
abbrev Zfa:Shape:=⟨sl_1,[],ts_1,0⟩
def Z1y (x:T32):Option (Bool) :=
 bif (inb x.2 (List.length x.1)) then
 bif (decide ((getAt ((0:Int),(0:Int),(0:Int),(0:Int),(0:Int)) x.1 (toN x.2)).1 < (0:Int))) then
 some true
 else
 bif (decide ((getAt ((0:Int),(0:Int),(0:Int),(0:Int),(0:Int)) x.1 (toN x.2)).1 > (7:Int))) then
 some true
 else
 bif (decide ((getAt ((0:Int),(0:Int),(0:Int),(0:Int),(0:Int)) x.1 (toN x.2)).2.1 < (0:Int))) then
 some true
 else
 bif (decide ((getAt ((0:Int),(0:Int),(0:Int),(0:Int),(0:Int)) x.1 (toN x.2)).2.1 > (17:Int))) then
 some true
 else
 bif (decide ((getAt ((0:Int),(0:Int),(0:Int),(0:Int),(0:Int)) x.1 (toN x.2)).2.2.2.1 < (0:Int))) then
 some true
 else
 bif (decide ((getAt ((0:Int),(0:Int),(0:Int),(0:Int),(0:Int)) x.1 (toN x.2)).2.2.2.2 < (Int.negSucc 0))) then
 some true
 else
 some (decide ((getAt ((0:Int),(0:Int),(0:Int),(0:Int),(0:Int)) x.1 (toN x.2)).2.2.2.2 ≥ x.2))
 else
 none
abbrev Zhp:=Spec.shp Zcu Zfa Z1y
def Z84:Ctx:=mC [] [] 44 0
theorem Z1z:Sound Tryz.prog 181 (Zhp) :=
 tS Z84 Tryz.f181 trivial
abbrev Zb9:Shape:=⟨[(0,(.hole y36)),(1,(.hole (.int .i64))),(5,(.hole (.int .i64))),(10,(.hole (.int .i64))),(11,(.hole (.int .i64)))],[],[y36,(.int .i64),(.int .i64),(.int .i64),(.int .i64)],0⟩
abbrev Zad:List (ETag × Shape):=[(.exit 0,⟨[(5,(.hole (.int .i64)))],[],ts_2,0⟩)]
def Z5i (x:(List (T20) × Int × Int × Int × Int)):Option ((List (T20) × Int × Int × Int × Int) ⊕ (Int)) :=
 bif (decide (x.2.2.2.2 < x.2.2.2.1)) then
 bif (inb x.2.2.2.2 (List.length x.1)) then
 bif (inb x.2.1 (List.length x.1)) then
 bif ((getAt ((0:Int),(0:Int),(0:Int),(0:Int),(0:Int)) x.1 (toN x.2.2.2.2)).1 == (getAt ((0:Int),(0:Int),(0:Int),(0:Int),(0:Int)) x.1 (toN x.2.1)).1) then
 some (.inl (x.1,x.2.1,x.2.2.2.2,x.2.2.2.1,(IntKind.wrap .i64 (x.2.2.2.2+(1:Int)))))
 else
 some (.inl (x.1,x.2.1,x.2.2.1,x.2.2.2.1,(IntKind.wrap .i64 (x.2.2.2.2+(1:Int)))))
 else
 none
 else
 none
 else
 some (.inr x.2.2.1)
def Z7p:Ctx:=mC [] [] 28 0
theorem Z5j:CSound Tryz.prog ⟨28,0,true⟩ (.loop (loopOf 4 Tryz.f187)) (pieceSpec Zb9 Zad (loop Z5i)) :=
 tL Z7p 4 Tryz.f187 trivial
abbrev Zci:Shape:=⟨sl_19,[],[y36,(.int .i64)],0⟩
abbrev Zey:Shape:=⟨sl_2,[],ts_2,0⟩
def Z1a (x:T32):Option (Int) :=
 bif (sub3 (0:Int) x.2 (List.length x.1)) then
 (loop Z5i (x.1,x.2,(Int.negSucc 0),(((List.length (cut x.1 (toN (0:Int)) ((toN x.2) - (toN (0:Int))))):Nat):Int),(0:Int))).bind fun r14 =>
 some r14
 else
 none
abbrev Zhd:=Spec.shp Zci Zey Z1a
def Z7o:Ctx:=mC [] [(0,4,pieceSpec Zb9 Zad (loop Z5i))] 28 0
theorem Z1b:Sound Tryz.prog 187 (Zhd) :=
 tS Z7o Tryz.f187 trivial ⟨(pL 4 Tryz.f187 Z5j),trivial⟩
abbrev Zcn:Shape:=⟨sl_19,[],[y36,(.int .i64)],0⟩
abbrev Zf3:Shape:=⟨sl_1,[],ts_1,0⟩
def Z1k (x:T32):Option (Bool) :=
 bif (inb x.2 (List.length x.1)) then
 bif ((getAt ((0:Int),(0:Int),(0:Int),(0:Int),(0:Int)) x.1 (toN x.2)).2.1 != (0:Int)) then
 (Z1a (x.1,x.2)).bind fun r13 =>
 some (decide (r13 < (0:Int)))
 else
 (Z1a (x.1,x.2)).bind fun r13 =>
 bif (decide (r13 ≥ (0:Int))) then
 some true
 else
 bif ((getAt ((0:Int),(0:Int),(0:Int),(0:Int),(0:Int)) x.1 (toN x.2)).2.2.1 != (0:Int)) then
 some true
 else
 bif ((getAt ((0:Int),(0:Int),(0:Int),(0:Int),(0:Int)) x.1 (toN x.2)).2.2.2.1 != (0:Int)) then
 some true
 else
 bif ((getAt ((0:Int),(0:Int),(0:Int),(0:Int),(0:Int)) x.1 (toN x.2)).1 == (0:Int)) then
 bif ((getAt ((0:Int),(0:Int),(0:Int),(0:Int),(0:Int)) x.1 (toN x.2)).2.2.2.2 != (Int.negSucc 0)) then
 some true
 else
 bif (decide ((getAt ((0:Int),(0:Int),(0:Int),(0:Int),(0:Int)) x.1 (toN x.2)).1 > (0:Int))) then
 bif (decide ((getAt ((0:Int),(0:Int),(0:Int),(0:Int),(0:Int)) x.1 (toN x.2)).2.2.2.2 < (0:Int))) then
 some true
 else
 bif (inb (getAt ((0:Int),(0:Int),(0:Int),(0:Int),(0:Int)) x.1 (toN x.2)).2.2.2.2 (List.length x.1)) then
 bif ((getAt ((0:Int),(0:Int),(0:Int),(0:Int),(0:Int)) x.1 (toN (getAt ((0:Int),(0:Int),(0:Int),(0:Int),(0:Int)) x.1 (toN x.2)).2.2.2.2)).2.1 != (1:Int)) then
 some true
 else
 bif (inb (getAt ((0:Int),(0:Int),(0:Int),(0:Int),(0:Int)) x.1 (toN x.2)).2.2.2.2 (List.length x.1)) then
 some ((getAt ((0:Int),(0:Int),(0:Int),(0:Int),(0:Int)) x.1 (toN (getAt ((0:Int),(0:Int),(0:Int),(0:Int),(0:Int)) x.1 (toN x.2)).2.2.2.2)).2.2.1 != (getAt ((0:Int),(0:Int),(0:Int),(0:Int),(0:Int)) x.1 (toN x.2)).1)
 else
 none
 else
 none
 else
 some false
 else
 bif (decide ((getAt ((0:Int),(0:Int),(0:Int),(0:Int),(0:Int)) x.1 (toN x.2)).1 > (0:Int))) then
 bif (decide ((getAt ((0:Int),(0:Int),(0:Int),(0:Int),(0:Int)) x.1 (toN x.2)).2.2.2.2 < (0:Int))) then
 some true
 else
 bif (inb (getAt ((0:Int),(0:Int),(0:Int),(0:Int),(0:Int)) x.1 (toN x.2)).2.2.2.2 (List.length x.1)) then
 bif ((getAt ((0:Int),(0:Int),(0:Int),(0:Int),(0:Int)) x.1 (toN (getAt ((0:Int),(0:Int),(0:Int),(0:Int),(0:Int)) x.1 (toN x.2)).2.2.2.2)).2.1 != (1:Int)) then
 some true
 else
 bif (inb (getAt ((0:Int),(0:Int),(0:Int),(0:Int),(0:Int)) x.1 (toN x.2)).2.2.2.2 (List.length x.1)) then
 some ((getAt ((0:Int),(0:Int),(0:Int),(0:Int),(0:Int)) x.1 (toN (getAt ((0:Int),(0:Int),(0:Int),(0:Int),(0:Int)) x.1 (toN x.2)).2.2.2.2)).2.2.1 != (getAt ((0:Int),(0:Int),(0:Int),(0:Int),(0:Int)) x.1 (toN x.2)).1)
 else
 none
 else
 none
 else
 some false
 else
 none
abbrev Zhi:=Spec.shp Zcn Zf3 Z1k
def Z7v:Ctx:=mC [(187,[],Zhd)] [] 69 0
theorem Z1l:Sound Tryz.prog 182 (Zhi) :=
 tS Z7v Tryz.f182 ⟨Z1b,trivial⟩
abbrev Zcs:Shape:=⟨sl_2,[],ts_2,0⟩
abbrev Zf8:Shape:=⟨sl_1,[],ts_1,0⟩
def Z1u (x:(Int)):Option (Bool) :=
 bif (x == (3:Int)) then
 some true
 else
 some (x == (5:Int))
abbrev Zhn:=Spec.shp Zcs Zf8 Z1u
def Z82:Ctx:=mC [] [] 9 0
theorem Z1v:Sound Tryz.prog 231 (Zhn) :=
 tS Z82 Tryz.f231 trivial
abbrev Zcm:Shape:=⟨sl_2,[],ts_2,0⟩
abbrev Zf2:Shape:=⟨sl_1,[],ts_1,0⟩
def Z1i (x:(Int)):Option (Bool) :=
 bif (x == (0:Int)) then
 some true
 else
 bif (x == (3:Int)) then
 some true
 else
 bif (x == (5:Int)) then
 some true
 else
 bif (x == (6:Int)) then
 some true
 else
 bif (x == (9:Int)) then
 some true
 else
 bif (x == (11:Int)) then
 some true
 else
 some (x == (15:Int))
abbrev Zhh:=Spec.shp Zcm Zf2 Z1i
def Z7u:Ctx:=mC [] [] 29 0
theorem Z1j:Sound Tryz.prog 232 (Zhh) :=
 tS Z7u Tryz.f232 trivial
abbrev Zbc:Shape:=⟨[(7,(.ptr 0 [])),(8,(.hole (.int .i64))),(40,(.hole y36)),(41,(.hole (.int .i64))),(42,(.hole (.int .i64)))],[.var (.hole y31)],[(.int .i64),y36,(.int .i64),(.int .i64),y31],0⟩
abbrev Zag:List (ETag × Shape):=[(.exit 0,⟨[(7,(.ptr 0 [])),(8,(.hole (.int .i64)))],[.var (.hole y31)],[(.int .i64),y31],0⟩)]
def Z5o (x:(Int × List (T20) × Int × Int × T20)):Option ((Int × List (T20) × Int × Int × T20) ⊕ (Int × T20)) :=
 bif (decide (x.2.2.2.1 < x.2.2.1)) then
 bif (inb x.2.2.2.1 (List.length x.2.1)) then
 bif ((getAt ((0:Int),(0:Int),(0:Int),(0:Int),(0:Int)) x.2.1 (toN x.2.2.2.1)).2.1 == (0:Int)) then
 some (.inl ((IntKind.wrap .i64 (x.1+(1:Int))),x.2.1,x.2.2.1,(IntKind.wrap .i64 (x.2.2.2.1+(1:Int))),x.2.2.2.2))
 else
 some (.inl (x.1,x.2.1,x.2.2.1,(IntKind.wrap .i64 (x.2.2.2.1+(1:Int))),x.2.2.2.2))
 else
 none
 else
 some (.inr (x.1,x.2.2.2.2))
def Z80:Ctx:=mC [(231,[],Zhn),(232,[],Zhh)] [] 73 0
theorem Z5p:CSound Tryz.prog ⟨73,0,true⟩ (.loop (loopOf 8 Tryz.f183)) (pieceSpec Zbc Zag (loop Z5o)) :=
 tL Z80 8 Tryz.f183 ⟨Z1v,Z1j,trivial⟩
abbrev Zcr:Shape:=⟨sl_14,[],ts_13,0⟩
abbrev Zf7:Shape:=⟨sl_2,[],ts_2,0⟩
def Z1s (x:T3):Option (Int) :=
 bif (decide (x.2 ≥ (2:Int))) then
 bif (decide (x.2 ≤ (7:Int))) then
 some (((List.length x.1):Nat):Int)
 else
 bif (x.2 == (8:Int)) then
 some (4:Int)
 else
 bif (x.2 == (9:Int)) then
 some (4:Int)
 else
 bif (decide (x.2 ≥ (16:Int))) then
 some (4:Int)
 else
 bif (decide (x.2 ≥ (10:Int))) then
 bif (decide (x.2 ≤ (15:Int))) then
 some (2:Int)
 else
 some (1:Int)
 else
 some (1:Int)
 else
 bif (x.2 == (8:Int)) then
 some (4:Int)
 else
 bif (x.2 == (9:Int)) then
 some (4:Int)
 else
 bif (decide (x.2 ≥ (16:Int))) then
 some (4:Int)
 else
 bif (decide (x.2 ≥ (10:Int))) then
 bif (decide (x.2 ≤ (15:Int))) then
 some (2:Int)
 else
 some (1:Int)
 else
 some (1:Int)
abbrev Zhm:=Spec.shp Zcr Zf7 Z1s
def Z81:Ctx:=mC [] [] 29 0
theorem Z1t:Sound Tryz.prog 233 (Zhm) :=
 tS Z81 Tryz.f233 trivial
abbrev Zcq:Shape:=⟨sl_17,[],ts_16,0⟩
abbrev Zf6:Shape:=⟨sl_1,[],ts_1,0⟩
def Z1q (x:T38):Option (Bool) :=
 bif (inb x.2.2 (List.length x.2.1)) then
 (Z1u (getAt ((0:Int),(0:Int),(0:Int),(0:Int),(0:Int)) x.2.1 (toN x.2.2)).2.1).bind fun r14 =>
 bif (Bool.not r14) then
 bif ((getAt ((0:Int),(0:Int),(0:Int),(0:Int),(0:Int)) x.2.1 (toN x.2.2)).2.2.2.1 != (0:Int)) then
 some true
 else
 (Z1i (getAt ((0:Int),(0:Int),(0:Int),(0:Int),(0:Int)) x.2.1 (toN x.2.2)).2.1).bind fun r15 =>
 bif (Bool.not r15) then
 bif ((getAt ((0:Int),(0:Int),(0:Int),(0:Int),(0:Int)) x.2.1 (toN x.2.2)).2.2.2.2 != (Int.negSucc 0)) then
 some true
 else
 bif ((getAt ((0:Int),(0:Int),(0:Int),(0:Int),(0:Int)) x.2.1 (toN x.2.2)).2.1 == (1:Int)) then
 bif (sub3 (0:Int) x.2.2 (List.length x.2.1)) then
 (loop Z5o ((0:Int),(cut x.2.1 (toN (0:Int)) ((toN x.2.2) - (toN (0:Int)))),(((List.length (cut x.2.1 (toN (0:Int)) ((toN x.2.2) - (toN (0:Int))))):Nat):Int),(0:Int),(getAt ((0:Int),(0:Int),(0:Int),(0:Int),(0:Int)) x.2.1 (toN x.2.2)))).bind fun r16 =>
 some (r16.2.2.2.1 != r16.1)
 else
 none
 else
 bif ((getAt ((0:Int),(0:Int),(0:Int),(0:Int),(0:Int)) x.2.1 (toN x.2.2)).2.1 != (0:Int)) then
 bif (decide ((getAt ((0:Int),(0:Int),(0:Int),(0:Int),(0:Int)) x.2.1 (toN x.2.2)).2.2.1 < (0:Int))) then
 some true
 else
 (Z1s (x.1,(getAt ((0:Int),(0:Int),(0:Int),(0:Int),(0:Int)) x.2.1 (toN x.2.2)).2.1)).bind fun r16 =>
 some (decide ((getAt ((0:Int),(0:Int),(0:Int),(0:Int),(0:Int)) x.2.1 (toN x.2.2)).2.2.1 ≥ r16))
 else
 some false
 else
 bif ((getAt ((0:Int),(0:Int),(0:Int),(0:Int),(0:Int)) x.2.1 (toN x.2.2)).2.1 == (1:Int)) then
 bif (sub3 (0:Int) x.2.2 (List.length x.2.1)) then
 (loop Z5o ((0:Int),(cut x.2.1 (toN (0:Int)) ((toN x.2.2) - (toN (0:Int)))),(((List.length (cut x.2.1 (toN (0:Int)) ((toN x.2.2) - (toN (0:Int))))):Nat):Int),(0:Int),(getAt ((0:Int),(0:Int),(0:Int),(0:Int),(0:Int)) x.2.1 (toN x.2.2)))).bind fun r16 =>
 some (r16.2.2.2.1 != r16.1)
 else
 none
 else
 bif ((getAt ((0:Int),(0:Int),(0:Int),(0:Int),(0:Int)) x.2.1 (toN x.2.2)).2.1 != (0:Int)) then
 bif (decide ((getAt ((0:Int),(0:Int),(0:Int),(0:Int),(0:Int)) x.2.1 (toN x.2.2)).2.2.1 < (0:Int))) then
 some true
 else
 (Z1s (x.1,(getAt ((0:Int),(0:Int),(0:Int),(0:Int),(0:Int)) x.2.1 (toN x.2.2)).2.1)).bind fun r16 =>
 some (decide ((getAt ((0:Int),(0:Int),(0:Int),(0:Int),(0:Int)) x.2.1 (toN x.2.2)).2.2.1 ≥ r16))
 else
 some false
 else
 (Z1i (getAt ((0:Int),(0:Int),(0:Int),(0:Int),(0:Int)) x.2.1 (toN x.2.2)).2.1).bind fun r15 =>
 bif (Bool.not r15) then
 bif ((getAt ((0:Int),(0:Int),(0:Int),(0:Int),(0:Int)) x.2.1 (toN x.2.2)).2.2.2.2 != (Int.negSucc 0)) then
 some true
 else
 bif ((getAt ((0:Int),(0:Int),(0:Int),(0:Int),(0:Int)) x.2.1 (toN x.2.2)).2.1 == (1:Int)) then
 bif (sub3 (0:Int) x.2.2 (List.length x.2.1)) then
 (loop Z5o ((0:Int),(cut x.2.1 (toN (0:Int)) ((toN x.2.2) - (toN (0:Int)))),(((List.length (cut x.2.1 (toN (0:Int)) ((toN x.2.2) - (toN (0:Int))))):Nat):Int),(0:Int),(getAt ((0:Int),(0:Int),(0:Int),(0:Int),(0:Int)) x.2.1 (toN x.2.2)))).bind fun r16 =>
 some (r16.2.2.2.1 != r16.1)
 else
 none
 else
 bif ((getAt ((0:Int),(0:Int),(0:Int),(0:Int),(0:Int)) x.2.1 (toN x.2.2)).2.1 != (0:Int)) then
 bif (decide ((getAt ((0:Int),(0:Int),(0:Int),(0:Int),(0:Int)) x.2.1 (toN x.2.2)).2.2.1 < (0:Int))) then
 some true
 else
 (Z1s (x.1,(getAt ((0:Int),(0:Int),(0:Int),(0:Int),(0:Int)) x.2.1 (toN x.2.2)).2.1)).bind fun r16 =>
 some (decide ((getAt ((0:Int),(0:Int),(0:Int),(0:Int),(0:Int)) x.2.1 (toN x.2.2)).2.2.1 ≥ r16))
 else
 some false
 else
 bif ((getAt ((0:Int),(0:Int),(0:Int),(0:Int),(0:Int)) x.2.1 (toN x.2.2)).2.1 == (1:Int)) then
 bif (sub3 (0:Int) x.2.2 (List.length x.2.1)) then
 (loop Z5o ((0:Int),(cut x.2.1 (toN (0:Int)) ((toN x.2.2) - (toN (0:Int)))),(((List.length (cut x.2.1 (toN (0:Int)) ((toN x.2.2) - (toN (0:Int))))):Nat):Int),(0:Int),(getAt ((0:Int),(0:Int),(0:Int),(0:Int),(0:Int)) x.2.1 (toN x.2.2)))).bind fun r16 =>
 some (r16.2.2.2.1 != r16.1)
 else
 none
 else
 bif ((getAt ((0:Int),(0:Int),(0:Int),(0:Int),(0:Int)) x.2.1 (toN x.2.2)).2.1 != (0:Int)) then
 bif (decide ((getAt ((0:Int),(0:Int),(0:Int),(0:Int),(0:Int)) x.2.1 (toN x.2.2)).2.2.1 < (0:Int))) then
 some true
 else
 (Z1s (x.1,(getAt ((0:Int),(0:Int),(0:Int),(0:Int),(0:Int)) x.2.1 (toN x.2.2)).2.1)).bind fun r16 =>
 some (decide ((getAt ((0:Int),(0:Int),(0:Int),(0:Int),(0:Int)) x.2.1 (toN x.2.2)).2.2.1 ≥ r16))
 else
 some false
 else
 none
abbrev Zhl:=Spec.shp Zcq Zf6 Z1q
def Z7z:Ctx:=mC [(231,[],Zhn),(232,[],Zhh),(233,[],Zhm)] [(0,8,pieceSpec Zbc Zag (loop Z5o))] 73 0
theorem Z1r:Sound Tryz.prog 183 (Zhl) :=
 tS Z7z Tryz.f183 ⟨Z1v,Z1j,Z1t,trivial⟩ ⟨(pL 8 Tryz.f183 Z5p),trivial⟩
abbrev Zct:Shape:=⟨sl_2,[],ts_2,0⟩
abbrev Zf9:Shape:=⟨sl_2,[],ts_2,0⟩
def Z1w (x:(Int)):Option (Int) :=
 bif (x == (3:Int)) then
 some (2:Int)
 else
 bif (x == (5:Int)) then
 some (4:Int)
 else
 bif (x == (6:Int)) then
 some (4:Int)
 else
 bif (x == (9:Int)) then
 some (8:Int)
 else
 bif (x == (11:Int)) then
 some (10:Int)
 else
 some (13:Int)
abbrev Zho:=Spec.shp Zct Zf9 Z1w
def Z83:Ctx:=mC [] [] 15 0
theorem Z1x:Sound Tryz.prog 234 (Zho) :=
 tS Z83 Tryz.f234 trivial
abbrev Zcl:Shape:=⟨sl_19,[],[y36,(.int .i64)],0⟩
abbrev Zf1:Shape:=⟨sl_1,[],ts_1,0⟩
def Z1g (x:T32):Option (Bool) :=
 bif (inb x.2 (List.length x.1)) then
 bif ((getAt ((0:Int),(0:Int),(0:Int),(0:Int),(0:Int)) x.1 (toN x.2)).2.1 == (0:Int)) then
 some false
 else
 (Z1i (getAt ((0:Int),(0:Int),(0:Int),(0:Int),(0:Int)) x.1 (toN x.2)).2.1).bind fun r15 =>
 bif (Bool.not r15) then
 some false
 else
 bif (decide ((getAt ((0:Int),(0:Int),(0:Int),(0:Int),(0:Int)) x.1 (toN x.2)).2.2.2.2 < (0:Int))) then
 some true
 else
 (Z1a (x.1,x.2)).bind fun r16 =>
 bif ((getAt ((0:Int),(0:Int),(0:Int),(0:Int),(0:Int)) x.1 (toN x.2)).2.2.2.2 != r16) then
 some true
 else
 bif (inb (getAt ((0:Int),(0:Int),(0:Int),(0:Int),(0:Int)) x.1 (toN x.2)).2.2.2.2 (List.length x.1)) then
 bif (decide ((getAt ((0:Int),(0:Int),(0:Int),(0:Int),(0:Int)) x.1 (toN x.2)).2.1 ≤ (6:Int))) then
 bif ((getAt ((0:Int),(0:Int),(0:Int),(0:Int),(0:Int)) x.1 (toN (getAt ((0:Int),(0:Int),(0:Int),(0:Int),(0:Int)) x.1 (toN x.2)).2.2.2.2)).2.1 == (8:Int)) then
 some false
 else
 (Z1w (getAt ((0:Int),(0:Int),(0:Int),(0:Int),(0:Int)) x.1 (toN x.2)).2.1).bind fun r17 =>
 bif ((getAt ((0:Int),(0:Int),(0:Int),(0:Int),(0:Int)) x.1 (toN (getAt ((0:Int),(0:Int),(0:Int),(0:Int),(0:Int)) x.1 (toN x.2)).2.2.2.2)).2.1 != r17) then
 some true
 else
 some ((getAt ((0:Int),(0:Int),(0:Int),(0:Int),(0:Int)) x.1 (toN (getAt ((0:Int),(0:Int),(0:Int),(0:Int),(0:Int)) x.1 (toN x.2)).2.2.2.2)).2.2.1 != (getAt ((0:Int),(0:Int),(0:Int),(0:Int),(0:Int)) x.1 (toN x.2)).2.2.1)
 else
 (Z1w (getAt ((0:Int),(0:Int),(0:Int),(0:Int),(0:Int)) x.1 (toN x.2)).2.1).bind fun r17 =>
 bif ((getAt ((0:Int),(0:Int),(0:Int),(0:Int),(0:Int)) x.1 (toN (getAt ((0:Int),(0:Int),(0:Int),(0:Int),(0:Int)) x.1 (toN x.2)).2.2.2.2)).2.1 != r17) then
 some true
 else
 some ((getAt ((0:Int),(0:Int),(0:Int),(0:Int),(0:Int)) x.1 (toN (getAt ((0:Int),(0:Int),(0:Int),(0:Int),(0:Int)) x.1 (toN x.2)).2.2.2.2)).2.2.1 != (getAt ((0:Int),(0:Int),(0:Int),(0:Int),(0:Int)) x.1 (toN x.2)).2.2.1)
 else
 none
 else
 none
abbrev Zhg:=Spec.shp Zcl Zf1 Z1g
def Z7t:Ctx:=mC [(232,[],Zhh),(187,[],Zhd),(234,[],Zho)] [] 57 0
theorem Z1h:Sound Tryz.prog 184 (Zhg) :=
 tS Z7t Tryz.f184 ⟨Z1j,Z1b,Z1x,trivial⟩
abbrev Zb8:Shape:=⟨[(2,(.hole (.int .i64))),(3,(.hole (.int .i64))),(9,(.hole (.int .i64))),(14,(.hole y36)),(15,(.hole (.int .i64))),(16,(.hole (.int .i64)))],[],ts_17,0⟩
abbrev Zac:List (ETag × Shape):=[(.exit 0,⟨[(9,(.hole (.int .i64)))],[],ts_2,0⟩)]
def Z5g (x:T42):Option (T42 ⊕ (Int)) :=
 bif (decide (x.2.2.2.2.2 < x.2.2.2.2.1)) then
 bif (inb x.2.2.2.2.2 (List.length x.2.2.2.1)) then
 bif ((getAt ((0:Int),(0:Int),(0:Int),(0:Int),(0:Int)) x.2.2.2.1 (toN x.2.2.2.2.2)).2.1 == x.1) then
 bif ((getAt ((0:Int),(0:Int),(0:Int),(0:Int),(0:Int)) x.2.2.2.1 (toN x.2.2.2.2.2)).2.2.1 == x.2.1) then
 some (.inl (x.1,x.2.1,(IntKind.wrap .i64 (x.2.2.1+(1:Int))),x.2.2.2.1,x.2.2.2.2.1,(IntKind.wrap .i64 (x.2.2.2.2.2+(1:Int)))))
 else
 some (.inl (x.1,x.2.1,x.2.2.1,x.2.2.2.1,x.2.2.2.2.1,(IntKind.wrap .i64 (x.2.2.2.2.2+(1:Int)))))
 else
 some (.inl (x.1,x.2.1,x.2.2.1,x.2.2.2.1,x.2.2.2.2.1,(IntKind.wrap .i64 (x.2.2.2.2.2+(1:Int)))))
 else
 none
 else
 some (.inr x.2.2.1)
def Z7n:Ctx:=mC [] [] 34 0
theorem Z5h:CSound Tryz.prog ⟨34,0,true⟩ (.loop (loopOf 4 Tryz.f235)) (pieceSpec Zb8 Zac (loop Z5g)) :=
 tL Z7n 4 Tryz.f235 trivial
abbrev Zch:Shape:=⟨sl_20,[],ts_18,0⟩
abbrev Zex:Shape:=⟨sl_2,[],ts_2,0⟩
def Z18 (x:(List (T20) × Int × Int × Int)):Option (Int) :=
 bif (sub3 (0:Int) x.2.1 (List.length x.1)) then
 (loop Z5g (x.2.2.1,x.2.2.2,(0:Int),(cut x.1 (toN (0:Int)) ((toN x.2.1) - (toN (0:Int)))),(((List.length (cut x.1 (toN (0:Int)) ((toN x.2.1) - (toN (0:Int))))):Nat):Int),(0:Int))).bind fun r17 =>
 some r17
 else
 none
abbrev Zhc:=Spec.shp Zch Zex Z18
def Z7m:Ctx:=mC [] [(0,4,pieceSpec Zb8 Zac (loop Z5g))] 34 0
theorem Z19:Sound Tryz.prog 235 (Zhc) :=
 tS Z7m Tryz.f235 trivial ⟨(pL 4 Tryz.f235 Z5h),trivial⟩
abbrev Zco:Shape:=⟨sl_17,[],ts_16,0⟩
abbrev Zf4:Shape:=⟨sl_1,[],ts_1,0⟩
def Z1m (x:T38):Option (Bool) :=
 bif (inb x.2.2 (List.length x.2.1)) then
 bif ((getAt ((0:Int),(0:Int),(0:Int),(0:Int),(0:Int)) x.2.1 (toN x.2.2)).2.1 != (3:Int)) then
 bif (decide ((getAt ((0:Int),(0:Int),(0:Int),(0:Int),(0:Int)) x.2.1 (toN x.2.2)).2.1 < (5:Int))) then
 some false
 else
 bif (decide ((getAt ((0:Int),(0:Int),(0:Int),(0:Int),(0:Int)) x.2.1 (toN x.2.2)).2.1 > (7:Int))) then
 some false
 else
 (Z18 (x.2.1,x.2.2,(3:Int),(getAt ((0:Int),(0:Int),(0:Int),(0:Int),(0:Int)) x.2.1 (toN x.2.2)).2.2.1)).bind fun r16 =>
 (Z18 (x.2.1,x.2.2,(5:Int),(getAt ((0:Int),(0:Int),(0:Int),(0:Int),(0:Int)) x.2.1 (toN x.2.2)).2.2.1)).bind fun r17 =>
 (Z18 (x.2.1,x.2.2,(7:Int),(getAt ((0:Int),(0:Int),(0:Int),(0:Int),(0:Int)) x.2.1 (toN x.2.2)).2.2.1)).bind fun r18 =>
 bif (inb (getAt ((0:Int),(0:Int),(0:Int),(0:Int),(0:Int)) x.2.1 (toN x.2.2)).2.2.1 (List.length x.1)) then
 bif (decide ((getAt (0:Int) x.1 (toN (getAt ((0:Int),(0:Int),(0:Int),(0:Int),(0:Int)) x.2.1 (toN x.2.2)).2.2.1)) < (0:Int))) then
 some true
 else
 bif ((getAt ((0:Int),(0:Int),(0:Int),(0:Int),(0:Int)) x.2.1 (toN x.2.2)).2.1 == (3:Int)) then
 bif (decide (r18 > (0:Int))) then
 some true
 else
 bif ((getAt ((0:Int),(0:Int),(0:Int),(0:Int),(0:Int)) x.2.1 (toN x.2.2)).2.2.2.1 != r16) then
 some true
 else
 bif (inb (getAt ((0:Int),(0:Int),(0:Int),(0:Int),(0:Int)) x.2.1 (toN x.2.2)).2.2.1 (List.length x.1)) then
 some (decide ((getAt ((0:Int),(0:Int),(0:Int),(0:Int),(0:Int)) x.2.1 (toN x.2.2)).2.2.2.1 > (IntKind.wrap .i64 (r17+(getAt (0:Int) x.1 (toN (getAt ((0:Int),(0:Int),(0:Int),(0:Int),(0:Int)) x.2.1 (toN x.2.2)).2.2.1))))))
 else
 none
 else
 bif ((getAt ((0:Int),(0:Int),(0:Int),(0:Int),(0:Int)) x.2.1 (toN x.2.2)).2.1 == (5:Int)) then
 bif ((getAt ((0:Int),(0:Int),(0:Int),(0:Int),(0:Int)) x.2.1 (toN x.2.2)).2.2.2.1 != r17) then
 some true
 else
 some (decide ((getAt ((0:Int),(0:Int),(0:Int),(0:Int),(0:Int)) x.2.1 (toN x.2.2)).2.2.2.1 > r16))
 else
 bif ((getAt ((0:Int),(0:Int),(0:Int),(0:Int),(0:Int)) x.2.1 (toN x.2.2)).2.1 == (6:Int)) then
 bif (Bool.not (decide (r18 > (0:Int)))) then
 some true
 else
 some (r16 != r17)
 else
 some (decide (r18 > (0:Int)))
 else
 none
 else
 (Z18 (x.2.1,x.2.2,(3:Int),(getAt ((0:Int),(0:Int),(0:Int),(0:Int),(0:Int)) x.2.1 (toN x.2.2)).2.2.1)).bind fun r16 =>
 (Z18 (x.2.1,x.2.2,(5:Int),(getAt ((0:Int),(0:Int),(0:Int),(0:Int),(0:Int)) x.2.1 (toN x.2.2)).2.2.1)).bind fun r17 =>
 (Z18 (x.2.1,x.2.2,(7:Int),(getAt ((0:Int),(0:Int),(0:Int),(0:Int),(0:Int)) x.2.1 (toN x.2.2)).2.2.1)).bind fun r18 =>
 bif (inb (getAt ((0:Int),(0:Int),(0:Int),(0:Int),(0:Int)) x.2.1 (toN x.2.2)).2.2.1 (List.length x.1)) then
 bif (decide ((getAt (0:Int) x.1 (toN (getAt ((0:Int),(0:Int),(0:Int),(0:Int),(0:Int)) x.2.1 (toN x.2.2)).2.2.1)) < (0:Int))) then
 some true
 else
 bif ((getAt ((0:Int),(0:Int),(0:Int),(0:Int),(0:Int)) x.2.1 (toN x.2.2)).2.1 == (3:Int)) then
 bif (decide (r18 > (0:Int))) then
 some true
 else
 bif ((getAt ((0:Int),(0:Int),(0:Int),(0:Int),(0:Int)) x.2.1 (toN x.2.2)).2.2.2.1 != r16) then
 some true
 else
 bif (inb (getAt ((0:Int),(0:Int),(0:Int),(0:Int),(0:Int)) x.2.1 (toN x.2.2)).2.2.1 (List.length x.1)) then
 some (decide ((getAt ((0:Int),(0:Int),(0:Int),(0:Int),(0:Int)) x.2.1 (toN x.2.2)).2.2.2.1 > (IntKind.wrap .i64 (r17+(getAt (0:Int) x.1 (toN (getAt ((0:Int),(0:Int),(0:Int),(0:Int),(0:Int)) x.2.1 (toN x.2.2)).2.2.1))))))
 else
 none
 else
 bif ((getAt ((0:Int),(0:Int),(0:Int),(0:Int),(0:Int)) x.2.1 (toN x.2.2)).2.1 == (5:Int)) then
 bif ((getAt ((0:Int),(0:Int),(0:Int),(0:Int),(0:Int)) x.2.1 (toN x.2.2)).2.2.2.1 != r17) then
 some true
 else
 some (decide ((getAt ((0:Int),(0:Int),(0:Int),(0:Int),(0:Int)) x.2.1 (toN x.2.2)).2.2.2.1 > r16))
 else
 bif ((getAt ((0:Int),(0:Int),(0:Int),(0:Int),(0:Int)) x.2.1 (toN x.2.2)).2.1 == (6:Int)) then
 bif (Bool.not (decide (r18 > (0:Int)))) then
 some true
 else
 some (r16 != r17)
 else
 some (decide (r18 > (0:Int)))
 else
 none
 else
 none
abbrev Zhj:=Spec.shp Zco Zf4 Z1m
def Z7w:Ctx:=mC [(235,[],Zhc)] [] 96 0
theorem Z1n:Sound Tryz.prog 185 (Zhj) :=
 tS Z7w Tryz.f185 ⟨Z19,trivial⟩
abbrev Zbb:Shape:=⟨[(0,(.hole y36)),(1,(.hole (.int .i64))),(5,(.ptr 0 [])),(23,(.hole y36)),(24,(.hole (.int .i64))),(25,(.hole (.int .i64)))],[.var (.hole y31)],[y36,(.int .i64),y36,(.int .i64),(.int .i64),y31],0⟩
abbrev Zaf:List (ETag × Shape):=[(.ret,⟨[(4,(.hole .bool))],[],ts_1,0⟩),(.exit 0,⟨[],[],[],0⟩)]
def Z5m (x:(List (T20) × Int × List (T20) × Int × Int × T20)):Option ((List (T20) × Int × List (T20) × Int × Int × T20) ⊕ ((Bool) ⊕ Unit)) :=
 bif (decide (x.2.2.2.2.1 < x.2.2.2.1)) then
 bif (inb x.2.2.2.2.1 (List.length x.2.2.1)) then
 bif ((getAt ((0:Int),(0:Int),(0:Int),(0:Int),(0:Int)) x.2.2.1 (toN x.2.2.2.2.1)).2.1 == (13:Int)) then
 bif ((getAt ((0:Int),(0:Int),(0:Int),(0:Int),(0:Int)) x.2.2.1 (toN x.2.2.2.2.1)).2.2.1 == x.2.2.2.2.2.2.2.1) then
 bif ((getAt ((0:Int),(0:Int),(0:Int),(0:Int),(0:Int)) x.2.2.1 (toN x.2.2.2.2.1)).1 != x.2.2.2.2.2.1) then
 some (.inr (.inl true))
 else
 (Z18 (x.1,x.2.1,(14:Int),x.2.2.2.2.2.2.2.1)).bind fun r21 =>
 some (.inr (.inl (decide (r21 > (0:Int)))))
 else
 some (.inl (x.1,x.2.1,x.2.2.1,x.2.2.2.1,(IntKind.wrap .i64 (x.2.2.2.2.1+(1:Int))),x.2.2.2.2.2))
 else
 some (.inl (x.1,x.2.1,x.2.2.1,x.2.2.2.1,(IntKind.wrap .i64 (x.2.2.2.2.1+(1:Int))),x.2.2.2.2.2))
 else
 none
 else
 some (.inr (.inr ()))
def Z7y:Ctx:=mC [(235,[],Zhc)] [] 53 0
theorem Z5n:CSound Tryz.prog ⟨53,0,true⟩ (.loop (loopOf 6 Tryz.f236)) (pieceSpec Zbb Zaf (loop Z5m)) :=
 tL Z7y 6 Tryz.f236 ⟨Z19,trivial⟩
abbrev Zcp:Shape:=⟨sl_19,[],[y36,(.int .i64)],0⟩
abbrev Zf5:Shape:=⟨sl_1,[],ts_1,0⟩
def Z1o (x:T32):Option (Bool) :=
 bif (inb x.2 (List.length x.1)) then
 bif ((getAt ((0:Int),(0:Int),(0:Int),(0:Int),(0:Int)) x.1 (toN x.2)).2.1 == (15:Int)) then
 (Z18 (x.1,x.2,(14:Int),(getAt ((0:Int),(0:Int),(0:Int),(0:Int),(0:Int)) x.1 (toN x.2)).2.2.1)).bind fun r20 =>
 some (r20 == (0:Int))
 else
 bif (sub3 (0:Int) x.2 (List.length x.1)) then
 (loop Z5m (x.1,x.2,(cut x.1 (toN (0:Int)) ((toN x.2) - (toN (0:Int)))),(((List.length (cut x.1 (toN (0:Int)) ((toN x.2) - (toN (0:Int))))):Nat):Int),(0:Int),(getAt ((0:Int),(0:Int),(0:Int),(0:Int),(0:Int)) x.1 (toN x.2)))).bind fun r20 =>
 match r20 with
 | .inl y21 =>
 some y21
 | .inr y21 =>
 some true
 else
 none
 else
 none
abbrev Zhk:=Spec.shp Zcp Zf5 Z1o
def Z7x:Ctx:=mC [(235,[],Zhc)] [(0,6,pieceSpec Zbb Zaf (loop Z5m))] 53 0
theorem Z1p:Sound Tryz.prog 236 (Zhk) :=
 tS Z7x Tryz.f236 ⟨Z19,trivial⟩ ⟨(pL 6 Tryz.f236 Z5n),trivial⟩
abbrev Zcv:Shape:=⟨sl_19,[],[y36,(.int .i64)],0⟩
abbrev Zfb:Shape:=⟨sl_1,[],ts_1,0⟩
def Z20 (x:T32):Option (Bool) :=
 bif (inb x.2 (List.length x.1)) then
 (Z18 (x.1,x.2,(11:Int),(getAt ((0:Int),(0:Int),(0:Int),(0:Int),(0:Int)) x.1 (toN x.2)).2.2.1)).bind fun r17 =>
 (Z18 (x.1,x.2,(12:Int),(getAt ((0:Int),(0:Int),(0:Int),(0:Int),(0:Int)) x.1 (toN x.2)).2.2.1)).bind fun r18 =>
 bif ((getAt ((0:Int),(0:Int),(0:Int),(0:Int),(0:Int)) x.1 (toN x.2)).2.1 == (11:Int)) then
 some ((IntKind.wrap .i64 (r17 - r18)) != (0:Int))
 else
 bif ((getAt ((0:Int),(0:Int),(0:Int),(0:Int),(0:Int)) x.1 (toN x.2)).2.1 == (12:Int)) then
 some ((IntKind.wrap .i64 (r17 - r18)) != (1:Int))
 else
 bif ((getAt ((0:Int),(0:Int),(0:Int),(0:Int),(0:Int)) x.1 (toN x.2)).2.1 == (14:Int)) then
 (Z1o (x.1,x.2)).bind fun r19 =>
 some r19
 else
 bif ((getAt ((0:Int),(0:Int),(0:Int),(0:Int),(0:Int)) x.1 (toN x.2)).2.1 == (15:Int)) then
 (Z1o (x.1,x.2)).bind fun r19 =>
 some r19
 else
 some false
 else
 none
abbrev Zhq:=Spec.shp Zcv Zfb Z20
def Z85:Ctx:=mC [(235,[],Zhc),(236,[],Zhk)] [] 45 0
theorem Z21:Sound Tryz.prog 186 (Zhq) :=
 tS Z85 Tryz.f186 ⟨Z19,Z1p,trivial⟩
abbrev Zck:Shape:=⟨sl_17,[],ts_16,0⟩
abbrev Zf0:Shape:=⟨sl_1,[],ts_1,0⟩
def Z1e (x:T38):Option (Bool) :=
 (Z1y (x.2.1,x.2.2)).bind fun r11 =>
 bif r11 then
 some true
 else
 (Z1k (x.2.1,x.2.2)).bind fun r12 =>
 bif r12 then
 some true
 else
 (Z1q (x.1,x.2.1,x.2.2)).bind fun r13 =>
 bif r13 then
 some true
 else
 (Z1g (x.2.1,x.2.2)).bind fun r14 =>
 bif r14 then
 some true
 else
 (Z1m (x.1,x.2.1,x.2.2)).bind fun r15 =>
 bif r15 then
 some true
 else
 (Z20 (x.2.1,x.2.2)).bind fun r16 =>
 some r16
abbrev Zhf:=Spec.shp Zck Zf0 Z1e
def Z7s:Ctx:=mC [(181,[],Zhp),(182,[],Zhi),(183,[],Zhl),(184,[],Zhg),(185,[],Zhj),(186,[],Zhq)] [] 37 0
theorem Z1f:Sound Tryz.prog 116 (Zhf) :=
 tS Z7s Tryz.f116 ⟨Z1z,Z1l,Z1r,Z1h,Z1n,Z21,trivial⟩
abbrev Zba:Shape:=⟨[(0,(.hole y1)),(1,(.hole y36)),(7,(.hole (.int .i64))),(8,(.hole (.int .i64)))],[],ts_15,0⟩
abbrev Zae:List (ETag × Shape):=[(.ret,⟨sl_3,[],ts_2,0⟩),(.exit 0,⟨[],[],[],0⟩)]
def Z5k (x:T41):Option (T41 ⊕ ((Int) ⊕ Unit)) :=
 bif (decide (x.2.2.2 < x.2.2.1)) then
 (Z1e (x.1,x.2.1,x.2.2.2)).bind fun r10 =>
 bif r10 then
 some (.inr (.inl x.2.2.2))
 else
 some (.inl (x.1,x.2.1,x.2.2.1,(IntKind.wrap .i64 (x.2.2.2+(1:Int)))))
 else
 some (.inr (.inr ()))
def Z7r:Ctx:=mC [(116,[],Zhf)] [] 17 0
theorem Z5l:CSound Tryz.prog ⟨17,0,true⟩ (.loop (loopOf 3 Tryz.f76)) (pieceSpec Zba Zae (loop Z5k)) :=
 tL Z7r 3 Tryz.f76 ⟨Z1f,trivial⟩
abbrev Zcj:Shape:=⟨sl_9,[],[y1,y36],0⟩
abbrev Zez:Shape:=⟨sl_2,[],ts_2,0⟩
def Z1c (x:T36):Option (Int) :=
 (loop Z5k (x.1,x.2,(((List.length x.2):Nat):Int),(0:Int))).bind fun r9 =>
 match r9 with
 | .inl y10 =>
 some y10
 | .inr y10 =>
 some (Int.negSucc 0)
abbrev Zhe:=Spec.shp Zcj Zez Z1c
def Z7q:Ctx:=mC [(116,[],Zhf)] [(0,3,pieceSpec Zba Zae (loop Z5k))] 17 0
theorem Z1d:Sound Tryz.prog 76 (Zhe) :=
 tS Z7q Tryz.f76 ⟨Z1f,trivial⟩ ⟨(pL 3 Tryz.f76 Z5l),trivial⟩
end
end Go.Proofs.YtifbgkikkiallaaGreat.VX.VxZ_Z
set_option maxRecDepth 100000
namespace Go.Proofs.YtifbgkikkiallaaGreat.VX.VxZ_Z
open Go.Proofs Go.Proofs.YtifbgkikkiallaaGreat.VX.T2
noncomputable section
abbrev Zcw:Shape:=⟨sl_9,[],[y1,y36],0⟩
abbrev Zfc:Shape:=⟨sl_1,[],ts_1,0⟩
def Z22 (x:T36):Option (Bool) :=
 (Z16 x.1).bind fun r7 =>
 bif r7 then
 (Z1c (x.1,x.2)).bind fun r8 =>
 some (decide (r8 < (0:Int)))
 else
 some false
abbrev Zhr:=Spec.shp Zcw Zfc Z22
def Z86:Ctx:=mC [(75,[],Zhb),(76,[],Zhe)] [] 13 0
theorem Z23:Sound Tryz.prog 26 (Zhr) :=
 tS Z86 Tryz.f26 ⟨Z17,Z1d,trivial⟩
abbrev Zcc:Shape:=⟨[],[],[],0⟩
abbrev Zes:Shape:=⟨sl_1,[],ts_1,0⟩
def Zy (x:Unit):Option (Bool) :=
 (Zm (([]:List Int),(((0:Int),(0:Int),(0:Int),(0:Int),(Int.negSucc 0)) :: (((0:Int),(1:Int),(1:Int),(0:Int),(Int.negSucc 0)) :: (((1:Int),(0:Int),(0:Int),(0:Int),(1:Int)) :: (((0:Int),(16:Int),(0:Int),(0:Int),(Int.negSucc 0)) :: ([]:List T20))))),(0:Int),(2:Int))).bind fun r8 =>
 (Zk (([]:List Int),(((0:Int),(0:Int),(0:Int),(0:Int),(Int.negSucc 0)) :: (((0:Int),(1:Int),(1:Int),(0:Int),(Int.negSucc 0)) :: (((1:Int),(0:Int),(0:Int),(0:Int),(1:Int)) :: (((0:Int),(16:Int),(0:Int),(0:Int),(Int.negSucc 0)) :: ([]:List T20))))),(2:Int),(3:Int))).bind fun r9 =>
 bif (r8.2 == (0:Int)) then
 bif (r9.2 == (0:Int)) then
 bif r8.1 then
 some r9.1
 else
 some false
 else
 some false
 else
 some false
abbrev Zh7:=Spec.shp Zcc Zes Zy
def Z7f:Ctx:=mC [(22,[2000000],Zh1),(23,[2000000],Zh0)] [] 33 0
theorem Zz:Sound Tryz.prog 27 (Zh7) :=
 tS Z7f Tryz.f27 ⟨Zn,Zl,trivial⟩
abbrev Zbe:Shape:=⟨[(1,(.hole (.int .i64))),(2,(.hole (.int .i64))),(3,(.hole (.int .i64))),(11,(.hole y36)),(12,(.hole (.int .i64))),(13,(.hole (.int .i64)))],[],ts_17,0⟩
abbrev Zai:List (ETag × Shape):=[(.ret,⟨[(8,(.hole (.int .i64)))],[],ts_2,0⟩),(.exit 0,⟨[],[],[],0⟩)]
def Z5s (x:T42):Option (T42 ⊕ ((Int) ⊕ Unit)) :=
 bif (decide (x.2.2.2.2.2 < x.2.2.2.2.1)) then
 bif (inb x.2.2.2.2.2 (List.length x.2.2.2.1)) then
 bif ((getAt ((0:Int),(0:Int),(0:Int),(0:Int),(0:Int)) x.2.2.2.1 (toN x.2.2.2.2.2)).2.1 == x.1) then
 bif ((getAt ((0:Int),(0:Int),(0:Int),(0:Int),(0:Int)) x.2.2.2.1 (toN x.2.2.2.2.2)).2.2.1 == x.2.1) then
 bif ((getAt ((0:Int),(0:Int),(0:Int),(0:Int),(0:Int)) x.2.2.2.1 (toN x.2.2.2.2.2)).2.2.2.1 == x.2.2.1) then
 some (.inr (.inl (getAt ((0:Int),(0:Int),(0:Int),(0:Int),(0:Int)) x.2.2.2.1 (toN x.2.2.2.2.2)).2.2.2.2))
 else
 some (.inl (x.1,x.2.1,x.2.2.1,x.2.2.2.1,x.2.2.2.2.1,(IntKind.wrap .i64 (x.2.2.2.2.2+(1:Int)))))
 else
 some (.inl (x.1,x.2.1,x.2.2.1,x.2.2.2.1,x.2.2.2.2.1,(IntKind.wrap .i64 (x.2.2.2.2.2+(1:Int)))))
 else
 some (.inl (x.1,x.2.1,x.2.2.1,x.2.2.2.1,x.2.2.2.2.1,(IntKind.wrap .i64 (x.2.2.2.2.2+(1:Int)))))
 else
 none
 else
 some (.inr (.inr ()))
def Z8b:Ctx:=mC [] [] 36 0
theorem Z5t:CSound Tryz.prog ⟨36,0,true⟩ (.loop (loopOf 3 Tryz.f188)) (pieceSpec Zbe Zai (loop Z5s)) :=
 tL Z8b 3 Tryz.f188 trivial
abbrev Zcz:Shape:=⟨sl_20,[],ts_18,0⟩
abbrev Zff:Shape:=⟨sl_2,[],ts_2,0⟩
def Z28 (x:(List (T20) × Int × Int × Int)):Option (Int) :=
 (loop Z5s (x.2.1,x.2.2.1,x.2.2.2,x.1,(((List.length x.1):Nat):Int),(0:Int))).bind fun r15 =>
 match r15 with
 | .inl y16 =>
 some y16
 | .inr y16 =>
 some (Int.negSucc 0)
abbrev Zhu:=Spec.shp Zcz Zff Z28
def Z8a:Ctx:=mC [] [(0,3,pieceSpec Zbe Zai (loop Z5s))] 36 0
theorem Z29:Sound Tryz.prog 188 (Zhu) :=
 tS Z8a Tryz.f188 trivial ⟨(pL 3 Tryz.f188 Z5t),trivial⟩
abbrev Zcy:Shape:=⟨sl_16,[],ts_15,0⟩
abbrev Zfe:Shape:=⟨sl_1,[],ts_1,0⟩
def Z26 (x:T41):Option (Bool) :=
 bif (inb x.2.2.2 (List.length x.2.1)) then
 bif (inb x.2.2.1 (List.length x.2.1)) then
 (Z1a (x.2.1,x.2.2.2)).bind fun r13 =>
 bif (x.2.2.1 == r13) then
 some true
 else
 bif ((getAt ((0:Int),(0:Int),(0:Int),(0:Int),(0:Int)) x.2.1 (toN x.2.2.2)).2.1 == (0:Int)) then
 bif (x.2.2.1 == (getAt ((0:Int),(0:Int),(0:Int),(0:Int),(0:Int)) x.2.1 (toN x.2.2.2)).2.2.2.2) then
 some true
 else
 bif ((getAt ((0:Int),(0:Int),(0:Int),(0:Int),(0:Int)) x.2.1 (toN x.2.2.2)).2.1 == (5:Int)) then
 (Z28 (x.2.1,(3:Int),(getAt ((0:Int),(0:Int),(0:Int),(0:Int),(0:Int)) x.2.1 (toN x.2.2.2)).2.2.1,(getAt ((0:Int),(0:Int),(0:Int),(0:Int),(0:Int)) x.2.1 (toN x.2.2.2)).2.2.2.1)).bind fun r14 =>
 some (x.2.2.1 == r14)
 else
 bif ((getAt ((0:Int),(0:Int),(0:Int),(0:Int),(0:Int)) x.2.1 (toN x.2.2.2)).2.1 == (3:Int)) then
 bif (inb (getAt ((0:Int),(0:Int),(0:Int),(0:Int),(0:Int)) x.2.1 (toN x.2.2.2)).2.2.1 (List.length x.1)) then
 bif (decide ((getAt ((0:Int),(0:Int),(0:Int),(0:Int),(0:Int)) x.2.1 (toN x.2.2.2)).2.2.2.1 ≥ (getAt (0:Int) x.1 (toN (getAt ((0:Int),(0:Int),(0:Int),(0:Int),(0:Int)) x.2.1 (toN x.2.2.2)).2.2.1)))) then
 bif (inb (getAt ((0:Int),(0:Int),(0:Int),(0:Int),(0:Int)) x.2.1 (toN x.2.2.2)).2.2.1 (List.length x.1)) then
 (Z28 (x.2.1,(5:Int),(getAt ((0:Int),(0:Int),(0:Int),(0:Int),(0:Int)) x.2.1 (toN x.2.2.2)).2.2.1,(IntKind.wrap .i64 ((getAt ((0:Int),(0:Int),(0:Int),(0:Int),(0:Int)) x.2.1 (toN x.2.2.2)).2.2.2.1 - (getAt (0:Int) x.1 (toN (getAt ((0:Int),(0:Int),(0:Int),(0:Int),(0:Int)) x.2.1 (toN x.2.2.2)).2.2.1)))))).bind fun r14 =>
 some (x.2.2.1 == r14)
 else
 none
 else
 some false
 else
 none
 else
 bif ((getAt ((0:Int),(0:Int),(0:Int),(0:Int),(0:Int)) x.2.1 (toN x.2.2.2)).2.1 == (6:Int)) then
 bif ((getAt ((0:Int),(0:Int),(0:Int),(0:Int),(0:Int)) x.2.1 (toN x.2.2.1)).2.1 == (7:Int)) then
 some ((getAt ((0:Int),(0:Int),(0:Int),(0:Int),(0:Int)) x.2.1 (toN x.2.2.1)).2.2.1 == (getAt ((0:Int),(0:Int),(0:Int),(0:Int),(0:Int)) x.2.1 (toN x.2.2.2)).2.2.1)
 else
 some false
 else
 bif ((getAt ((0:Int),(0:Int),(0:Int),(0:Int),(0:Int)) x.2.1 (toN x.2.2.2)).2.1 == (11:Int)) then
 bif ((getAt ((0:Int),(0:Int),(0:Int),(0:Int),(0:Int)) x.2.1 (toN x.2.2.1)).2.1 == (12:Int)) then
 some ((getAt ((0:Int),(0:Int),(0:Int),(0:Int),(0:Int)) x.2.1 (toN x.2.2.1)).2.2.1 == (getAt ((0:Int),(0:Int),(0:Int),(0:Int),(0:Int)) x.2.1 (toN x.2.2.2)).2.2.1)
 else
 some false
 else
 bif ((getAt ((0:Int),(0:Int),(0:Int),(0:Int),(0:Int)) x.2.1 (toN x.2.2.2)).2.1 == (15:Int)) then
 bif ((getAt ((0:Int),(0:Int),(0:Int),(0:Int),(0:Int)) x.2.1 (toN x.2.2.1)).2.1 == (14:Int)) then
 some ((getAt ((0:Int),(0:Int),(0:Int),(0:Int),(0:Int)) x.2.1 (toN x.2.2.1)).2.2.1 == (getAt ((0:Int),(0:Int),(0:Int),(0:Int),(0:Int)) x.2.1 (toN x.2.2.2)).2.2.1)
 else
 some false
 else
 some false
 else
 bif ((getAt ((0:Int),(0:Int),(0:Int),(0:Int),(0:Int)) x.2.1 (toN x.2.2.2)).2.1 == (5:Int)) then
 (Z28 (x.2.1,(3:Int),(getAt ((0:Int),(0:Int),(0:Int),(0:Int),(0:Int)) x.2.1 (toN x.2.2.2)).2.2.1,(getAt ((0:Int),(0:Int),(0:Int),(0:Int),(0:Int)) x.2.1 (toN x.2.2.2)).2.2.2.1)).bind fun r14 =>
 some (x.2.2.1 == r14)
 else
 bif ((getAt ((0:Int),(0:Int),(0:Int),(0:Int),(0:Int)) x.2.1 (toN x.2.2.2)).2.1 == (3:Int)) then
 bif (inb (getAt ((0:Int),(0:Int),(0:Int),(0:Int),(0:Int)) x.2.1 (toN x.2.2.2)).2.2.1 (List.length x.1)) then
 bif (decide ((getAt ((0:Int),(0:Int),(0:Int),(0:Int),(0:Int)) x.2.1 (toN x.2.2.2)).2.2.2.1 ≥ (getAt (0:Int) x.1 (toN (getAt ((0:Int),(0:Int),(0:Int),(0:Int),(0:Int)) x.2.1 (toN x.2.2.2)).2.2.1)))) then
 bif (inb (getAt ((0:Int),(0:Int),(0:Int),(0:Int),(0:Int)) x.2.1 (toN x.2.2.2)).2.2.1 (List.length x.1)) then
 (Z28 (x.2.1,(5:Int),(getAt ((0:Int),(0:Int),(0:Int),(0:Int),(0:Int)) x.2.1 (toN x.2.2.2)).2.2.1,(IntKind.wrap .i64 ((getAt ((0:Int),(0:Int),(0:Int),(0:Int),(0:Int)) x.2.1 (toN x.2.2.2)).2.2.2.1 - (getAt (0:Int) x.1 (toN (getAt ((0:Int),(0:Int),(0:Int),(0:Int),(0:Int)) x.2.1 (toN x.2.2.2)).2.2.1)))))).bind fun r14 =>
 some (x.2.2.1 == r14)
 else
 none
 else
 some false
 else
 none
 else
 bif ((getAt ((0:Int),(0:Int),(0:Int),(0:Int),(0:Int)) x.2.1 (toN x.2.2.2)).2.1 == (6:Int)) then
 bif ((getAt ((0:Int),(0:Int),(0:Int),(0:Int),(0:Int)) x.2.1 (toN x.2.2.1)).2.1 == (7:Int)) then
 some ((getAt ((0:Int),(0:Int),(0:Int),(0:Int),(0:Int)) x.2.1 (toN x.2.2.1)).2.2.1 == (getAt ((0:Int),(0:Int),(0:Int),(0:Int),(0:Int)) x.2.1 (toN x.2.2.2)).2.2.1)
 else
 some false
 else
 bif ((getAt ((0:Int),(0:Int),(0:Int),(0:Int),(0:Int)) x.2.1 (toN x.2.2.2)).2.1 == (11:Int)) then
 bif ((getAt ((0:Int),(0:Int),(0:Int),(0:Int),(0:Int)) x.2.1 (toN x.2.2.1)).2.1 == (12:Int)) then
 some ((getAt ((0:Int),(0:Int),(0:Int),(0:Int),(0:Int)) x.2.1 (toN x.2.2.1)).2.2.1 == (getAt ((0:Int),(0:Int),(0:Int),(0:Int),(0:Int)) x.2.1 (toN x.2.2.2)).2.2.1)
 else
 some false
 else
 bif ((getAt ((0:Int),(0:Int),(0:Int),(0:Int),(0:Int)) x.2.1 (toN x.2.2.2)).2.1 == (15:Int)) then
 bif ((getAt ((0:Int),(0:Int),(0:Int),(0:Int),(0:Int)) x.2.1 (toN x.2.2.1)).2.1 == (14:Int)) then
 some ((getAt ((0:Int),(0:Int),(0:Int),(0:Int),(0:Int)) x.2.1 (toN x.2.2.1)).2.2.1 == (getAt ((0:Int),(0:Int),(0:Int),(0:Int),(0:Int)) x.2.1 (toN x.2.2.2)).2.2.1)
 else
 some false
 else
 some false
 else
 none
 else
 none
abbrev Zht:=Spec.shp Zcy Zfe Z26
def Z89:Ctx:=mC [(187,[],Zhd),(188,[],Zhu)] [] 114 0
theorem Z27:Sound Tryz.prog 117 (Zht) :=
 tS Z89 Tryz.f117 ⟨Z1b,Z29,trivial⟩
abbrev Zbd:Shape:=⟨sl_21,bl_9,[y1,y36,(.int .i64),(.int .i64),y1],0⟩
abbrev Zah:List (ETag × Shape):=[(.exit 0,⟨[(7,(.sl 0))],bl_9,[y1],0⟩)]
def Z5q (x:T43):Option (T43 ⊕ (List Int)) :=
 bif (decide (x.2.2.2.1 < x.2.2.1)) then
 (Z26 (x.1,x.2.1,x.2.2.2.1,x.2.2.1)).bind fun r12 =>
 bif r12 then
 bif (fits ((List.length x.2.2.2.2)+(List.length (x.2.2.2.1 :: ([]:List Int))))) then
 some (.inl (x.1,x.2.1,x.2.2.1,(IntKind.wrap .i64 (x.2.2.2.1+(1:Int))),(x.2.2.2.2++(x.2.2.2.1 :: ([]:List Int)))))
 else
 none
 else
 some (.inl (x.1,x.2.1,x.2.2.1,(IntKind.wrap .i64 (x.2.2.2.1+(1:Int))),x.2.2.2.2))
 else
 some (.inr x.2.2.2.2)
def Z88:Ctx:=mC [(117,[],Zht)] [] 25 0
theorem Z5r:CSound Tryz.prog ⟨25,0,true⟩ (.loop (loopOf 4 Tryz.f77)) (pieceSpec Zbd Zah (loop Z5q)) :=
 tL Z88 4 Tryz.f77 ⟨Z27,trivial⟩
abbrev Zcx:Shape:=⟨sl_17,[],ts_16,0⟩
abbrev Zfd:Shape:=⟨sl_11,[],[y1],0⟩
def Z24 (x:T38):Option (List Int) :=
 (loop Z5q (x.1,x.2.1,x.2.2,(0:Int),([]:List Int))).bind fun r11 =>
 some r11
abbrev Zhs:=Spec.shp Zcx Zfd Z24
def Z87:Ctx:=mC [(117,[],Zht)] [(0,4,pieceSpec Zbd Zah (loop Z5q))] 25 0
theorem Z25:Sound Tryz.prog 77 (Zhs) :=
 tS Z87 Tryz.f77 ⟨Z27,trivial⟩ ⟨(pL 4 Tryz.f77 Z5r),trivial⟩
abbrev Zbg:Shape:=⟨[(0,(.hole y1)),(1,(.hole y36)),(5,(.sl 0)),(6,(.hole (.int .i64))),(7,(.hole .bool)),(8,(.hole (.int .i64))),(13,(.hole (.int .i64))),(14,(.hole (.int .i64))),(28,(.hole y1)),(29,(.hole (.int .i64))),(30,(.hole (.int .i64)))],bl_9,[y1,y36,(.int .i64),.bool,(.int .i64),(.int .i64),(.int .i64),y1,(.int .i64),(.int .i64),y1],0⟩
abbrev Zak:List (ETag × Shape):=[(.exit 4,⟨sl_22,bl_9,ts_19,0⟩)]
def Z5w (x:(List Int × List (T20) × Int × Bool × Int × Int × Int × List Int × Int × Int × List Int)):Option ((List Int × List (T20) × Int × Bool × Int × Int × Int × List Int × Int × Int × List Int) ⊕ (List Int × List (T20) × Int × Bool × Int × Int × Int × List Int)) :=
 bif (decide (x.2.2.2.2.2.2.2.2.2.1 < x.2.2.2.2.2.2.2.2.1)) then
 bif (inb x.2.2.2.2.2.2.2.2.2.1 (List.length x.2.2.2.2.2.2.2.1)) then
 bif x.2.2.2.1 then
 some (.inl (x.1,x.2.1,x.2.2.1,((getAt (0:Int) x.2.2.2.2.2.2.2.1 (toN x.2.2.2.2.2.2.2.2.2.1)) != x.2.2.1),x.2.2.2.2.1,x.2.2.2.2.2.1,x.2.2.2.2.2.2.1,x.2.2.2.2.2.2.2.1,x.2.2.2.2.2.2.2.2.1,(IntKind.wrap .i64 (x.2.2.2.2.2.2.2.2.2.1+(1:Int))),x.2.2.2.2.2.2.2.2.2.2))
 else
 some (.inl (x.1,x.2.1,x.2.2.1,false,x.2.2.2.2.1,x.2.2.2.2.2.1,x.2.2.2.2.2.2.1,x.2.2.2.2.2.2.2.1,x.2.2.2.2.2.2.2.2.1,(IntKind.wrap .i64 (x.2.2.2.2.2.2.2.2.2.1+(1:Int))),x.2.2.2.2.2.2.2.2.2.2))
 else
 none
 else
 some (.inr (x.1,x.2.1,x.2.2.1,x.2.2.2.1,x.2.2.2.2.1,x.2.2.2.2.2.1,x.2.2.2.2.2.2.1,x.2.2.2.2.2.2.2.2.2.2))
def Z8g:Ctx:=mC [(77,[],Zhs)] [] 48 0
theorem Z5x:CSound Tryz.prog ⟨48,0,true⟩ (.loop (loopOf 11 Tryz.f29)) (pieceSpec Zbg Zak (loop Z5w)) :=
 tL Z8g 11 Tryz.f29 ⟨Z25,trivial⟩
abbrev Zbi:Shape:=⟨sl_22,bl_9,ts_19,0⟩
abbrev Zam:List (ETag × Shape):=[(.exit 2,⟨[(0,(.hole y1)),(1,(.hole y36)),(5,(.sl 0)),(6,(.hole (.int .i64))),(7,(.hole .bool)),(13,(.hole (.int .i64))),(14,(.hole (.int .i64)))],bl_9,ts_20,0⟩)]
def Z60 (x:(List Int × List (T20) × Int × Bool × Int × Int × Int × List Int)):Option ((List Int × List (T20) × Int × Bool × Int × Int × Int × List Int) ⊕ (T44)) :=
 bif (decide (x.2.2.2.2.1 < (((List.length x.2.1):Nat):Int))) then
 (Z24 (x.1,x.2.1,x.2.2.2.2.1)).bind fun r10 =>
 (loop Z5w (x.1,x.2.1,x.2.2.1,x.2.2.2.1,x.2.2.2.2.1,x.2.2.2.2.2.1,x.2.2.2.2.2.2.1,r10,(((List.length r10):Nat):Int),(0:Int),x.2.2.2.2.2.2.2)).bind fun r11 =>
 some (.inl (r11.1,r11.2.1,r11.2.2.1,r11.2.2.2.1,(IntKind.wrap .i64 (r11.2.2.2.2.1+(1:Int))),r11.2.2.2.2.2.1,r11.2.2.2.2.2.2.1,r11.2.2.2.2.2.2.2))
 else
 some (.inr (x.1,x.2.1,x.2.2.1,x.2.2.2.1,x.2.2.2.2.2.1,x.2.2.2.2.2.2.1,x.2.2.2.2.2.2.2))
def Z8i:Ctx:=mC [(77,[],Zhs)] [(0,11,pieceSpec Zbg Zak (loop Z5w))] 48 0
theorem Z61:CSound Tryz.prog ⟨48,0,true⟩ (.loop (loopOf 8 Tryz.f29)) (pieceSpec Zbi Zam (loop Z60)) :=
 tL Z8i 8 Tryz.f29 ⟨Z25,trivial⟩ ⟨(pL 11 Tryz.f29 Z5x),trivial⟩
abbrev Zbh:Shape:=⟨[(0,(.hole y1)),(1,(.hole y36)),(5,(.sl 0)),(13,(.hole (.int .i64))),(14,(.hole (.int .i64)))],bl_9,[y1,y36,(.int .i64),(.int .i64),y1],0⟩
abbrev Zal:List (ETag × Shape):=[(.exit 0,⟨[(5,(.sl 0))],bl_9,[y1],0⟩)]
def Z5y (x:T43):Option (T43 ⊕ (List Int)) :=
 bif (decide (x.2.2.2.1 < x.2.2.1)) then
 (loop Z60 (x.1,x.2.1,x.2.2.2.1,true,(IntKind.wrap .i64 (x.2.2.2.1+(1:Int))),x.2.2.1,x.2.2.2.1,x.2.2.2.2)).bind fun r9 =>
 bif r9.2.2.2.1 then
 bif (fits ((List.length r9.2.2.2.2.2.2)+(List.length (r9.2.2.1 :: ([]:List Int))))) then
 some (.inl (r9.1,r9.2.1,r9.2.2.2.2.1,(IntKind.wrap .i64 (r9.2.2.2.2.2.1+(1:Int))),(r9.2.2.2.2.2.2++(r9.2.2.1 :: ([]:List Int)))))
 else
 none
 else
 some (.inl (r9.1,r9.2.1,r9.2.2.2.2.1,(IntKind.wrap .i64 (r9.2.2.2.2.2.1+(1:Int))),r9.2.2.2.2.2.2))
 else
 some (.inr x.2.2.2.2)
def Z8h:Ctx:=mC [(77,[],Zhs)] [(0,11,pieceSpec Zbg Zak (loop Z5w)),(0,8,pieceSpec Zbi Zam (loop Z60))] 48 0
theorem Z5z:CSound Tryz.prog ⟨48,0,true⟩ (.loop (loopOf 4 Tryz.f29)) (pieceSpec Zbh Zal (loop Z5y)) :=
 tL Z8h 4 Tryz.f29 ⟨Z25,trivial⟩ ⟨(pL 11 Tryz.f29 Z5x),(pL 8 Tryz.f29 Z61),trivial⟩
abbrev Zd2:Shape:=⟨sl_9,[],[y1,y36],0⟩
abbrev Zfi:Shape:=⟨sl_11,[],[y1],0⟩
def Z2e (x:T36):Option (List Int) :=
 (loop Z5y (x.1,x.2,(((List.length x.2):Nat):Int),(0:Int),([]:List Int))).bind fun r8 =>
 some r8
abbrev Zhx:=Spec.shp Zd2 Zfi Z2e
def Z8f:Ctx:=mC [(77,[],Zhs)] [(0,11,pieceSpec Zbg Zak (loop Z5w)),(0,8,pieceSpec Zbi Zam (loop Z60)),(0,4,pieceSpec Zbh Zal (loop Z5y))] 48 0
theorem Z2f:Sound Tryz.prog 29 (Zhx) :=
 tS Z8f Tryz.f29 ⟨Z25,trivial⟩ ⟨(pL 11 Tryz.f29 Z5x),(pL 8 Tryz.f29 Z61),(pL 4 Tryz.f29 Z5z),trivial⟩
abbrev Zb6:Shape:=⟨[(0,(.hole y1)),(1,(.hole y1)),(12,(.hole (.int .i64))),(13,(.hole (.int .i64)))],[],[y1,y1,(.int .i64),(.int .i64)],0⟩
abbrev Zaa:List (ETag × Shape):=[(.ret,⟨[(4,(.hole .bool))],[],ts_1,0⟩),(.exit 0,⟨[],[],[],0⟩)]
def Z5c (x:T15):Option (T15 ⊕ ((Bool) ⊕ Unit)) :=
 bif (decide (x.2.2.2 < x.2.2.1)) then
 bif (inb x.2.2.2 (List.length x.1)) then
 bif (inb x.2.2.2 (List.length x.2.1)) then
 bif ((getAt (0:Int) x.1 (toN x.2.2.2)) != (getAt (0:Int) x.2.1 (toN x.2.2.2))) then
 some (.inr (.inl false))
 else
 some (.inl (x.1,x.2.1,x.2.2.1,(IntKind.wrap .i64 (x.2.2.2+(1:Int)))))
 else
 none
 else
 none
 else
 some (.inr (.inr ()))
def Z7j:Ctx:=mC [] [] 26 0
theorem Z5d:CSound Tryz.prog ⟨26,0,true⟩ (.loop (loopOf 5 Tryz.f28)) (pieceSpec Zb6 Zaa (loop Z5c)) :=
 tL Z7j 5 Tryz.f28 trivial
abbrev Zcf:Shape:=⟨[(0,(.hole y1)),(1,(.hole y1))],[],[y1,y1],0⟩
abbrev Zev:Shape:=⟨sl_1,[],ts_1,0⟩
def Z14 (x:T9):Option (Bool) :=
 bif ((((List.length x.1):Nat):Int) != (((List.length x.2):Nat):Int)) then
 some false
 else
 (loop Z5c (x.1,x.2,(((List.length x.1):Nat):Int),(0:Int))).bind fun r9 =>
 match r9 with
 | .inl y10 =>
 some y10
 | .inr y10 =>
 some true
abbrev Zha:=Spec.shp Zcf Zev Z14
def Z7i:Ctx:=mC [] [(0,5,pieceSpec Zb6 Zaa (loop Z5c))] 26 0
theorem Z15:Sound Tryz.prog 28 (Zha) :=
 tS Z7i Tryz.f28 trivial ⟨(pL 5 Tryz.f28 Z5d),trivial⟩
abbrev Zce:Shape:=⟨sl_10,[],ts_8,0⟩
abbrev Zeu:Shape:=⟨sl_1,[],ts_1,0⟩
def Z12 (x:(Int × Int)):Option (Bool) :=
 bif (decide (x.1 ≥ (0:Int))) then
 some (decide (x.1 < x.2))
 else
 some false
abbrev Zh9:=Spec.shp Zce Zeu Z12
def Z7h:Ctx:=mC [] [] 12 0
theorem Z13:Sound Tryz.prog 30 (Zh9) :=
 tS Z7h Tryz.f30 trivial
abbrev Zbl:Shape:=⟨[(0,(.hole y1)),(1,(.hole y36)),(2,(.hole (.int .i64))),(7,(.sl 0)),(15,(.hole (.int .i64))),(16,(.hole (.int .i64)))],[.row .bool],[y1,y36,(.int .i64),(.int .i64),(.int .i64),y0],0⟩
abbrev Zap:List (ETag × Shape):=[(.exit 0,⟨[(0,(.hole y1)),(1,(.hole y36)),(2,(.hole (.int .i64))),(7,(.sl 0))],[.row .bool],[y1,y36,(.int .i64),y0],0⟩)]
def Z66 (x:(List Int × List (T20) × Int × Int × Int × List Bool)):Option ((List Int × List (T20) × Int × Int × Int × List Bool) ⊕ (List Int × List (T20) × Int × List Bool)) :=
 bif (decide (x.2.2.2.2.1 < x.2.2.2.1)) then
 bif (fits ((List.length x.2.2.2.2.2)+(List.length (false :: ([]:List Bool))))) then
 some (.inl (x.1,x.2.1,x.2.2.1,x.2.2.2.1,(IntKind.wrap .i64 (x.2.2.2.2.1+(1:Int))),(x.2.2.2.2.2++(false :: ([]:List Bool)))))
 else
 none
 else
 some (.inr (x.1,x.2.1,x.2.2.1,x.2.2.2.2.2))
def Z8m:Ctx:=mC [] [] 63 0
theorem Z67:CSound Tryz.prog ⟨63,0,true⟩ (.loop (loopOf 4 Tryz.f31)) (pieceSpec Zbl Zap (loop Z66)) :=
 tL Z8m 4 Tryz.f31 trivial
abbrev Zbj:Shape:=⟨[(0,(.hole y1)),(1,(.hole y36)),(2,(.hole (.int .i64))),(7,(.sl 0)),(8,(.hole (.int .i64))),(38,(.hole y1)),(39,(.hole (.int .i64))),(40,(.hole (.int .i64)))],[.row .bool],[y1,y36,(.int .i64),(.int .i64),y1,(.int .i64),(.int .i64),y0],0⟩
abbrev Zan:List (ETag × Shape):=[(.exit 4,⟨sl_21,[.row .bool],[y1,y36,(.int .i64),(.int .i64),y0],0⟩)]
def Z62 (x:(List Int × List (T20) × Int × Int × List Int × Int × Int × List Bool)):Option ((List Int × List (T20) × Int × Int × List Int × Int × Int × List Bool) ⊕ (List Int × List (T20) × Int × Int × List Bool)) :=
 bif (decide (x.2.2.2.2.2.2.1 < x.2.2.2.2.2.1)) then
 bif (inb x.2.2.2.2.2.2.1 (List.length x.2.2.2.2.1)) then
 bif (inb (getAt (0:Int) x.2.2.2.2.1 (toN x.2.2.2.2.2.2.1)) (List.length x.2.2.2.2.2.2.2)) then
 some (.inl (x.1,x.2.1,x.2.2.1,x.2.2.2.1,x.2.2.2.2.1,x.2.2.2.2.2.1,(IntKind.wrap .i64 (x.2.2.2.2.2.2.1+(1:Int))),(List.set x.2.2.2.2.2.2.2 (toN (getAt (0:Int) x.2.2.2.2.1 (toN x.2.2.2.2.2.2.1))) true)))
 else
 none
 else
 none
 else
 some (.inr (x.1,x.2.1,x.2.2.1,x.2.2.2.1,x.2.2.2.2.2.2.2))
def Z8k:Ctx:=mC [(77,[],Zhs)] [(0,4,pieceSpec Zbl Zap (loop Z66))] 63 0
theorem Z63:CSound Tryz.prog ⟨63,0,true⟩ (.loop (loopOf 13 Tryz.f31)) (pieceSpec Zbj Zan (loop Z62)) :=
 tL Z8k 13 Tryz.f31 ⟨Z25,trivial⟩ ⟨pN,trivial⟩
abbrev Zbm:Shape:=⟨sl_21,[.row .bool],[y1,y36,(.int .i64),(.int .i64),y0],0⟩
abbrev Zaq:List (ETag × Shape):=[(.exit 2,⟨[(2,(.hole (.int .i64))),(7,(.sl 0))],[.row .bool],[(.int .i64),y0],0⟩)]
def Z68 (x:(List Int × List (T20) × Int × Int × List Bool)):Option ((List Int × List (T20) × Int × Int × List Bool) ⊕ (Int × List Bool)) :=
 bif (decide (x.2.2.2.1 ≥ (0:Int))) then
 bif (inb x.2.2.2.1 (List.length x.2.2.2.2)) then
 bif (Bool.not (getAt false x.2.2.2.2 (toN x.2.2.2.1))) then
 some (.inl (x.1,x.2.1,x.2.2.1,(IntKind.wrap .i64 (x.2.2.2.1 - (1:Int))),x.2.2.2.2))
 else
 (Z24 (x.1,x.2.1,x.2.2.2.1)).bind fun r14 =>
 (loop Z62 (x.1,x.2.1,x.2.2.1,x.2.2.2.1,r14,(((List.length r14):Nat):Int),(0:Int),x.2.2.2.2)).bind fun r15 =>
 some (.inl (r15.1,r15.2.1,r15.2.2.1,(IntKind.wrap .i64 (r15.2.2.2.1 - (1:Int))),r15.2.2.2.2))
 else
 none
 else
 some (.inr (x.2.2.1,x.2.2.2.2))
def Z8n:Ctx:=mC [(77,[],Zhs)] [(0,4,pieceSpec Zbl Zap (loop Z66)),(0,13,pieceSpec Zbj Zan (loop Z62))] 63 0
theorem Z69:CSound Tryz.prog ⟨63,0,true⟩ (.loop (loopOf 9 Tryz.f31)) (pieceSpec Zbm Zaq (loop Z68)) :=
 tL Z8n 9 Tryz.f31 ⟨Z25,trivial⟩ ⟨pN,(pL 13 Tryz.f31 Z63),trivial⟩
abbrev Zbk:Shape:=⟨[(2,(.hole (.int .i64))),(7,(.sl 0)),(11,(.sl 1)),(12,(.hole (.int .i64)))],[.row .bool,.row (.int .i64)],[(.int .i64),(.int .i64),y0,y1],0⟩
abbrev Zao:List (ETag × Shape):=[(.exit 6,⟨[(11,(.sl 0))],bl_9,[y1],0⟩)]
def Z64 (x:(Int × Int × List Bool × List Int)):Option ((Int × Int × List Bool × List Int) ⊕ (List Int)) :=
 bif (decide (x.2.1 < x.1)) then
 bif (inb x.2.1 (List.length x.2.2.1)) then
 bif (getAt false x.2.2.1 (toN x.2.1)) then
 bif (fits ((List.length x.2.2.2)+(List.length (x.2.1 :: ([]:List Int))))) then
 some (.inl (x.1,(IntKind.wrap .i64 (x.2.1+(1:Int))),x.2.2.1,(x.2.2.2++(x.2.1 :: ([]:List Int)))))
 else
 none
 else
 some (.inl (x.1,(IntKind.wrap .i64 (x.2.1+(1:Int))),x.2.2.1,x.2.2.2))
 else
 none
 else
 some (.inr x.2.2.2)
def Z8l:Ctx:=mC [(77,[],Zhs)] [(0,4,pieceSpec Zbl Zap (loop Z66)),(0,13,pieceSpec Zbj Zan (loop Z62)),(0,9,pieceSpec Zbm Zaq (loop Z68))] 63 0
theorem Z65:CSound Tryz.prog ⟨63,0,true⟩ (.loop (loopOf 19 Tryz.f31)) (pieceSpec Zbk Zao (loop Z64)) :=
 tL Z8l 19 Tryz.f31 ⟨Z25,trivial⟩ ⟨pN,pN,pN,trivial⟩
abbrev Zd3:Shape:=⟨sl_17,[],ts_16,0⟩
abbrev Zfj:Shape:=⟨sl_11,[],[y1],0⟩
def Z2g (x:T38):Option (List Int) :=
 (loop Z66 (x.1,x.2.1,x.2.2,(((List.length x.2.1):Nat):Int),(0:Int),([]:List Bool))).bind fun r12 =>
 bif (inb r12.2.2.1 (List.length r12.2.2.2)) then
 (loop Z68 (r12.1,r12.2.1,r12.2.2.1,r12.2.2.1,(List.set r12.2.2.2 (toN r12.2.2.1) true))).bind fun r13 =>
 (loop Z64 (r13.1,(0:Int),r13.2,([]:List Int))).bind fun r14 =>
 some r14
 else
 none
abbrev Zhy:=Spec.shp Zd3 Zfj Z2g
def Z8j:Ctx:=mC [(77,[],Zhs)] [(0,4,pieceSpec Zbl Zap (loop Z66)),(0,13,pieceSpec Zbj Zan (loop Z62)),(0,9,pieceSpec Zbm Zaq (loop Z68)),(0,19,pieceSpec Zbk Zao (loop Z64))] 63 0
theorem Z2h:Sound Tryz.prog 31 (Zhy) :=
 tS Z8j Tryz.f31 ⟨Z25,trivial⟩ ⟨(pL 4 Tryz.f31 Z67),(pL 13 Tryz.f31 Z63),(pL 9 Tryz.f31 Z69),(pL 19 Tryz.f31 Z65),trivial⟩
abbrev Zbf:Shape:=⟨[(2,(.hole (.int .i64))),(14,(.hole y1)),(15,(.hole (.int .i64))),(16,(.hole (.int .i64)))],[],ts_21,0⟩
abbrev Zaj:List (ETag × Shape):=[(.ret,⟨[(8,(.hole .bool))],[],ts_1,0⟩),(.exit 0,⟨[],[],[],0⟩)]
def Z5u (x:T12):Option (T12 ⊕ ((Bool) ⊕ Unit)) :=
 bif (decide (x.2.2.2 < x.2.2.1)) then
 bif (inb x.2.2.2 (List.length x.2.1)) then
 bif ((getAt (0:Int) x.2.1 (toN x.2.2.2)) == x.1) then
 some (.inr (.inl true))
 else
 some (.inl (x.1,x.2.1,x.2.2.1,(IntKind.wrap .i64 (x.2.2.2+(1:Int)))))
 else
 none
 else
 some (.inr (.inr ()))
def Z8e:Ctx:=mC [(31,[],Zhy)] [] 24 0
theorem Z5v:CSound Tryz.prog ⟨24,0,true⟩ (.loop (loopOf 3 Tryz.f32)) (pieceSpec Zbf Zaj (loop Z5u)) :=
 tL Z8e 3 Tryz.f32 ⟨Z2h,trivial⟩
abbrev Zd1:Shape:=⟨sl_16,[],ts_15,0⟩
abbrev Zfh:Shape:=⟨sl_1,[],ts_1,0⟩
def Z2c (x:T41):Option (Bool) :=
 (Z2g (x.1,x.2.1,x.2.2.2)).bind fun r15 =>
 (loop Z5u (x.2.2.1,r15,(((List.length r15):Nat):Int),(0:Int))).bind fun r16 =>
 match r16 with
 | .inl y17 =>
 some y17
 | .inr y17 =>
 some false
abbrev Zhw:=Spec.shp Zd1 Zfh Z2c
def Z8d:Ctx:=mC [(31,[],Zhy)] [(0,3,pieceSpec Zbf Zaj (loop Z5u))] 24 0
theorem Z2d:Sound Tryz.prog 32 (Zhw) :=
 tS Z8d Tryz.f32 ⟨Z2h,trivial⟩ ⟨(pL 3 Tryz.f32 Z5v),trivial⟩
abbrev Zd0:Shape:=⟨sl_16,[],ts_15,0⟩
abbrev Zfg:Shape:=⟨sl_1,[],ts_1,0⟩
def Z2a (x:T41):Option (Bool) :=
 bif (x.2.2.1 != x.2.2.2) then
 (Z2c (x.1,x.2.1,x.2.2.1,x.2.2.2)).bind fun r16 =>
 bif (Bool.not r16) then
 (Z2c (x.1,x.2.1,x.2.2.2,x.2.2.1)).bind fun r17 =>
 some (Bool.not r17)
 else
 some false
 else
 some false
abbrev Zhv:=Spec.shp Zd0 Zfg Z2a
def Z8c:Ctx:=mC [(32,[],Zhw)] [] 28 0
theorem Z2b:Sound Tryz.prog 33 (Zhv) :=
 tS Z8c Tryz.f33 ⟨Z2d,trivial⟩
def F_plaitlaw17_OrderTells (x:T41):Option (Bool) :=
 bif (sub3 (0:Int) (Min.min (((List.length x.1):Nat):Int) (6:Int)) (List.length x.1)) then
 (Z10 x.2.1).bind fun r1 =>
 (Zm ((cut x.1 (toN (0:Int)) ((toN (Min.min (((List.length x.1):Nat):Int) (6:Int))) - (toN (0:Int)))),r1,x.2.2.1,x.2.2.2)).bind fun r2 =>
 (Zk ((cut x.1 (toN (0:Int)) ((toN (Min.min (((List.length x.1):Nat):Int) (6:Int))) - (toN (0:Int)))),r1,x.2.2.1,x.2.2.2)).bind fun r3 =>
 (Zq ((cut x.1 (toN (0:Int)) ((toN (Min.min (((List.length x.1):Nat):Int) (6:Int))) - (toN (0:Int)))),r1,x.2.2.2)).bind fun r4 =>
 (Zo ((cut x.1 (toN (0:Int)) ((toN (Min.min (((List.length x.1):Nat):Int) (6:Int))) - (toN (0:Int)))),r1)).bind fun r5 =>
 (Z22 ((cut x.1 (toN (0:Int)) ((toN (Min.min (((List.length x.1):Nat):Int) (6:Int))) - (toN (0:Int)))),r1)).bind fun r6 =>
 bif (Bool.not r6) then
 (Zy ()).bind fun r7 =>
 bif r7 then
 bif (r2.2 == (1:Int)) then
 bif (r3.2 == (1:Int)) then
 bif (r4.2 == (1:Int)) then
 bif (r5.2 == (1:Int)) then
 bif (Bool.not r2.1) then
 bif (Bool.not r3.1) then
 bif ((((List.length r4.1):Nat):Int) == (0:Int)) then
 some ((((List.length r5.1):Nat):Int) == (0:Int))
 else
 some false
 else
 some false
 else
 some false
 else
 some false
 else
 some false
 else
 some false
 else
 some false
 else
 some false
 else
 bif (r5.2 != (0:Int)) then
 some false
 else
 (Z2e ((cut x.1 (toN (0:Int)) ((toN (Min.min (((List.length x.1):Nat):Int) (6:Int))) - (toN (0:Int)))),r1)).bind fun r7 =>
 (Z14 (r5.1,r7)).bind fun r8 =>
 bif (Bool.not r8) then
 some false
 else
 (Zy ()).bind fun r9 =>
 bif (Bool.not r9) then
 some false
 else
 (Z12 (x.2.2.2,(((List.length r1):Nat):Int))).bind fun r10 =>
 bif (Bool.not r10) then
 bif (r2.2 == (3:Int)) then
 bif (r3.2 == (3:Int)) then
 bif (r4.2 == (3:Int)) then
 bif (Bool.not r2.1) then
 bif (Bool.not r3.1) then
 some ((((List.length r4.1):Nat):Int) == (0:Int))
 else
 some false
 else
 some false
 else
 some false
 else
 some false
 else
 some false
 else
 bif (r4.2 != (0:Int)) then
 some false
 else
 (Z2g ((cut x.1 (toN (0:Int)) ((toN (Min.min (((List.length x.1):Nat):Int) (6:Int))) - (toN (0:Int)))),r1,x.2.2.2)).bind fun r11 =>
 (Z14 (r4.1,r11)).bind fun r12 =>
 bif (Bool.not r12) then
 some false
 else
 (Z12 (x.2.2.1,(((List.length r1):Nat):Int))).bind fun r13 =>
 bif (Bool.not r13) then
 bif (r2.2 == (3:Int)) then
 bif (r3.2 == (3:Int)) then
 bif (Bool.not r2.1) then
 some (Bool.not r3.1)
 else
 some false
 else
 some false
 else
 some false
 else
 bif (r2.2 == (0:Int)) then
 bif (r3.2 == (0:Int)) then
 (Z2c ((cut x.1 (toN (0:Int)) ((toN (Min.min (((List.length x.1):Nat):Int) (6:Int))) - (toN (0:Int)))),r1,x.2.2.1,x.2.2.2)).bind fun r14 =>
 bif (r2.1 == r14) then
 (Z2a ((cut x.1 (toN (0:Int)) ((toN (Min.min (((List.length x.1):Nat):Int) (6:Int))) - (toN (0:Int)))),r1,x.2.2.1,x.2.2.2)).bind fun r15 =>
 some (r3.1 == r15)
 else
 some false
 else
 some false
 else
 some false
 else
 none
def Z7e:Ctx:=mC [(21,[],Zh8),(22,[],Zh1),(23,[],Zh0),(24,[],Zh3),(25,[],Zh2),(26,[],Zhr),(27,[],Zh7),(29,[],Zhx),(28,[],Zha),(30,[],Zh9),(31,[],Zhy),(32,[],Zhw),(33,[],Zhv)] [] 188 0 true [] [(1,[0])]
theorem F_plaitlaw17_OrderTells_ok:Sound Tryz.prog 5 (Spec.pure [y1,y36,(.int .i64),(.int .i64)] [.bool] F_plaitlaw17_OrderTells) :=
 tP Z7e Tryz.f5 ⟨Z11,Zn,Zl,Zr,Zp,Z23,Zz,Z2f,Z15,Z13,Z2h,Z2d,Z2b,trivial⟩
end
end Go.Proofs.YtifbgkikkiallaaGreat.VX.VxZ_Z
set_option maxRecDepth 100000
namespace Go.Proofs.YtifbgkikkiallaaGreat.VX.VxZ_Z
open Go.Proofs Go.Proofs.YtifbgkikkiallaaGreat.VX.T2
noncomputable section
end
end Go.Proofs.YtifbgkikkiallaaGreat.VX.VxZ_Z
set_option maxRecDepth 100000
namespace Go.Proofs.YtifbgkikkiallaaGreat.VX.VxZ_Z
open Go.Proofs Go.Proofs.YtifbgkikkiallaaGreat.VX.T2
noncomputable section
end
end Go.Proofs.YtifbgkikkiallaaGreat.VX.VxZ_Z

