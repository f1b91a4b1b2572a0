/- Laid for the law TraceRuns. -/
import Derived.Test.YthdlpkdojipfhaaGreatTraceRunsE15
import Derived.Test.YthdlpkdojipfhaaGreatTraceRunsE16
set_option linter.unusedVariables false
set_option linter.unusedSimpArgs false
set_option maxRecDepth 100000
namespace Go.Proofs.YthdlpkdojipfhaaGreat.VX.VxM_M
open Go.Proofs Go.Proofs.YthdlpkdojipfhaaGreat.VX.T2
noncomputable section
theorem mixed:Tryz.prog.follows .mixedOrders=true:=by kernel_rfl
abbrev mC (fx:List (FuncId × List FuncId × Spec)) (sum:List (Nat × Nat × CSpec)) (nt pin:Nat) (nr:Bool:=true) (ys:List (Nat × List Nat × Spec):=[]) (rw:List (Nat × List Nat):=[]):Ctx:={ tb:=mkTb T2.tbl,fx:=fx,sum:=sum,nt:=nt,pin:=pin,nr:=nr,ys:=ys,rw:=rw }
theorem tS (C:Ctx) (fn:Func) {f:FuncId} {sh ro:Shape} {F:HL sh.ts→Option (HL ro.ts)} (hx:FxAll Tryz.prog C.fx) (hs:SumAll Tryz.prog C.ek (bodyOf fn) C.sum:=by trivial) (hy:YsAll Tryz.prog C.ys:=by trivial) (h1:Tryz.prog.funcs[f]?=some fn:=by kernel_rfl) (h2:fn.body=some (bodyOf fn):=by kernel_rfl) (h3:fn.name ≠ "runtime.NumGoroutine":=by decide) (h4:C.tb=mkTb T2.tbl:=by rfl) (h5:∀ (R:Type) f cl args m N k kp,C.miss (R:=R) f cl args m N k kp=none:=by intros; rfl) (h6:fn.ntmps=C.nt:=by kernel_rfl) (h7:ro.pin=C.pin:=by rfl) (h8:C.pin ≤ sh.bl.length:=by decide) (h9:C.pin ≤ ro.bl.length:=by decide) (h10:sh.pin=0:=by rfl) (h11:sh.sl.length ≤ C.nt:=by decide) (h12:seqK 0 ro.sl=true:=by rfl) (h13:∀ x,exec C (bodyOf fn) (sh.fr x) (sh.mem x) sh.bl.length (retS C fn.results.toList ro)=F x:=by intro x; kernel_rfl):Sound Tryz.prog f (Spec.shp sh ro F) :=
 Sound.shp h1 h2 h3 (ctxOK mixed tbl_ok h4 hx hy h5) (SumOK.of hs) h6 sh ro h7 h8 h9 h10 h11 h12 F h13
theorem tL (C:Ctx) (n:Nat) (fn:Func) {sh:Shape} {es:List (ETag × Shape)} {F:HL sh.ts→Option (HL sh.ts ⊕ YT es)} (hx:FxAll Tryz.prog C.fx) (hs:SumAll Tryz.prog C.ek (loopOf n fn) C.sum:=by trivial) (hy:YsAll Tryz.prog C.ys:=by trivial) (h4:C.tb=mkTb T2.tbl:=by rfl) (h5:∀ (R:Type) f cl args m N k kp,C.miss (R:=R) f cl args m N k kp=none:=by intros; rfl) (h6:sh.pin=C.pin:=by rfl) (h7:pinsOK C.pin es=true:=by rfl) (h8:∀ x,exec C (loopOf n fn) (sh.fr x) (sh.mem x) sh.bl.length (loopK sh es)=F x:=by intro x; kernel_rfl):CSound Tryz.prog C.ek (.loop (loopOf n fn)) (pieceSpec sh es (loop F)) :=
 loop_sound (ctxOK mixed tbl_ok h4 hx hy h5) (SumOK.of hs) sh es h6 h7 F h8
theorem tP (C:Ctx) (fn:Func) {f:FuncId} {ts rs:List Ty} {F:HL ts→Option (HL rs)} (hx:FxAll Tryz.prog C.fx) (hs:SumAll Tryz.prog C.ek (bodyOf fn) C.sum:=by trivial) (hy:YsAll Tryz.prog C.ys:=by trivial) (h1:Tryz.prog.funcs[f]?=some fn:=by kernel_rfl) (h2:fn.body=some (bodyOf fn):=by kernel_rfl) (h3:fn.name ≠ "runtime.NumGoroutine":=by decide) (h4:C.tb=mkTb T2.tbl:=by rfl) (h5:∀ (R:Type) f cl args m N k kp,C.miss (R:=R) f cl args m N k kp=none:=by intros; rfl) (h6:fn.ntmps=C.nt:=by kernel_rfl) (h7:C.pin=0:=by rfl) (h8:ts.length ≤ C.nt:=by decide) (h9:∀ x,exec C (bodyOf fn) (initFr 0 (ofHL ts x)) [] 0 (retK C fn.results.toList rs)=F x:=by intro x; kernel_rfl):Sound Tryz.prog f (Spec.pure ts rs F) :=
 Sound.pure h1 h2 h3 (ctxOK mixed tbl_ok h4 hx hy h5) (SumOK.of hs) h6 h7 ts rs h8 F h9
theorem pL (n:Nat) (fn:Func) {c:Code} {k:EK} {s:CSpec} (h:CSound Tryz.prog k (.loop (loopOf n fn)) s) (e:pieces 0 n c=[.loop (loopOf n fn)]:=by kernel_rfl):∀ d ∈ pieces 0 n c,CSound Tryz.prog k d s:=pieces_one e h
theorem pR (n:Nat) (fn:Func) {c:Code} {k:EK} {s:CSpec} (h:CSound Tryz.prog k (rfOf n fn) s) (e:pieces 3 n c=[rfOf n fn]:=by kernel_rfl):∀ d ∈ pieces 3 n c,CSound Tryz.prog k d s:=pieces_one e h
theorem pN {t n:Nat} {c:Code} {k:EK} {s:CSpec} (e:pieces t n c=[]:=by kernel_rfl):∀ d ∈ pieces t n c,CSound Tryz.prog k d s:=pieces_none e
abbrev T0:=Bool × Int
abbrev T1:=Int × Bool
abbrev T2:=List Int × Int
abbrev T3:=Int × List Int
abbrev T4:=Int × Int × Int
abbrev T5:=(List Int) × Int
abbrev T6:=List (Int × Int)
abbrev T7:=Int × (Int × Int)
abbrev T8:=(Int × Int) × Int
abbrev T9:=List Int × Int × Int
abbrev T11:=List (Int × Int) × Int × Int × (Int × Int)
abbrev T12:=List T0 × Bool
abbrev T13:=Int × List (T7)
abbrev T14:=Int × (List T7)
abbrev T15:=List (T7) × Int
abbrev T16:=Int × (Int × T2)
abbrev T17:=Int × (Int × T1)
abbrev T18:=Bool × List (T7)
abbrev T19:=Int × (Int × T5)
abbrev T20:=Int × (Int × T7)
abbrev T21:=(List T0) × Bool
abbrev T22:=Bool × (List T7)
abbrev T23:=Int × (T7 × Int)
abbrev T24:=List (T7) × List (T7)
abbrev T25:=(List T7) × (List T7)
abbrev T26:=List (T7) × List (T7) × Int × Int
abbrev T27:=Int × List Int × List Int × Int × List (T8) × List (Int × Int) × List (Int × Int)
abbrev T28:=Bool × List Int × List Int × Int × List (T8) × List (Int × Int) × List (Int × Int)
abbrev T29:=(Int × T13)
abbrev T30:=(Int × T13) × T7
abbrev T31:=Int × (Int × T24)
abbrev T32:=Int × (Int × T25)
abbrev T33:=Int × T16 × List Int
abbrev T34:=(Int × T13) × Int × Int
abbrev T35:=List (T12) × List (List (T7))
abbrev T36:=List (T20) × List (Int × Int)
abbrev T37:=T20 × List Int × List Int × Int × List (T8) × List (Int × Int) × List (Int × Int)
abbrev T38:=List (T20) × T20 × List Int × List Int × Int × List (T8) × List (Int × Int) × List (Int × Int)
abbrev T39:=Int × (Int × T35)
abbrev T40:=Bool × (T16 × T31)
abbrev T41:=Bool × (T19 × T32)
abbrev T42:=List T29 × (Int × Int)
abbrev T43:=(Int × T40)
abbrev T44:=List (T18) × T42
abbrev T45:=(Int × T40) × T7
abbrev T46:=(Int × T40) × Int
abbrev T47:=List Int × (Int × T39)
abbrev T48:=(Int × T40) × (Int × T23) × Int
abbrev T49:=List T43 × T44
abbrev T50:=T47 × List (T7)
abbrev T51:=T47 × List Int × Int
abbrev T53:=List (T12) × Int × Int × T47
abbrev T54:=List (List (T7)) × Int × Int × T47
abbrev T56:=Int × List (T7) × List (List (T7)) × Int × Int × List (T7) × Int × Int × T47
abbrev T57:=T47 × (Int × Int) × List (T17) × List T43 × List (T18) × List T29 × List (T20)
abbrev T58:=Int × T47 × (Int × Int) × List (T17) × List T43 × List (T18) × List T29 × List (T20)
abbrev T60:=(Int × Int) × T7 × T47 × (Int × Int) × List (T17) × List T43 × List (T18) × List T29 × List (T20)
abbrev T61:=List (T17) × T49
abbrev T62:=(T47 × T61)
abbrev T67:=List (T17) × Int × Int × (T47 × T61) × List (Int × Int)
abbrev T68:=Int × List T0 × Int × Int × (T47 × T61) × List (Int × Int)
abbrev y0:Ty:=.slice (.int .i64)
abbrev y1:Ty:=.arr 8 (.int .i64)
abbrev y2:Ty:=.pair .bool (.int .i64)
abbrev y3:Ty:=.pair (.int .i64) .bool
abbrev y4:Ty:=.pair (.int .i64) (.int .i64)
abbrev y5:Ty:=.pair (.int .i64) y4
abbrev y6:Ty:=.pair y0 (.int .i64)
abbrev y7:Ty:=.pair (.int .i64) y3
abbrev y8:Ty:=.pair y4 (.int .i64)
abbrev y9:Ty:=.pair (.slice y2) .bool
abbrev y10:Ty:=.slice (.slice y5)
abbrev y11:Ty:=.pair (.int .i64) y6
abbrev y12:Ty:=.pair (.int .i64) y7
abbrev y13:Ty:=.pair (.int .i64) y5
abbrev y14:Ty:=.pair y5 (.int .i64)
abbrev y15:Ty:=.pair .bool (.slice y5)
abbrev y16:Ty:=.pair (.slice y5) (.slice y5)
abbrev y17:Ty:=.pair (.int .i64) (.slice y5)
abbrev y18:Ty:=.slice y12
abbrev y19:Ty:=.slice y15
abbrev y20:Ty:=.pair (.slice y9) y10
abbrev y21:Ty:=.pair (.int .i64) y11
abbrev y22:Ty:=.pair (.int .i64) y16
abbrev y23:Ty:=.pair (.int .i64) y17
abbrev y24:Ty:=.pair (.int .i64) y13
abbrev y25:Ty:=.pair (.int .i64) y14
abbrev y26:Ty:=.slice y23
abbrev y27:Ty:=.slice y24
abbrev y28:Ty:=.pair (.int .i64) y20
abbrev y29:Ty:=.pair (.int .i64) y22
abbrev y30:Ty:=.pair (.int .i64) y25
abbrev y31:Ty:=.pair y26 y4
abbrev y32:Ty:=.pair y21 y29
abbrev y33:Ty:=.pair (.int .i64) y28
abbrev y34:Ty:=.pair y27 (.slice y4)
abbrev y35:Ty:=.pair y19 y31
abbrev y36:Ty:=.pair .bool y32
abbrev y37:Ty:=.pair (.int .i64) y33
abbrev y38:Ty:=.pair (.int .i64) y34
abbrev y39:Ty:=.pair y0 y37
abbrev y40:Ty:=.pair (.int .i64) y36
abbrev y41:Ty:=.slice y40
abbrev y42:Ty:=.pair y40 (.int .i64)
abbrev y43:Ty:=.pair y41 y35
abbrev y44:Ty:=.pair y18 y43
abbrev y45:Ty:=.pair y39 y44
abbrev bl_0:List BPat:=[.var (.hole y39)]
abbrev bl_1:List BPat:=[.var (.pr (.pr .nl (.pr (.hole (.int .i64)) (.pr (.hole (.int .i64)) (.pr (.hole (.int .i64)) (.pr .nl .nl))))) (.pr .nl (.pr .nl (.pr .nl (.pr .nl (.hole y4)))))),.var (.pr (.hole y39) (.pr (.sl 2) (.pr (.sl 3) (.pr (.sl 4) (.pr (.sl 5) (.hole y4)))))),.row y12,.row y40,.row y15,.row y23]
abbrev bl_2:List BPat:=[.var (.pr (.pr (.hole y39) (.pr (.sl 1) (.pr (.sl 2) (.pr (.sl 3) (.pr (.sl 4) (.hole y4)))))) (.sl 5)),.row y12,.row y40,.row y15,.row y23,.row y24]
abbrev bl_3:List BPat:=[.var (.hole (.int .i64))]
abbrev bl_4:List BPat:=[.row y12,.var (.hole (.int .i64))]
abbrev bl_5:List BPat:=[.var (.ptr 1 []),.var (.pr (.pr (.hole y39) (.pr (.sl 2) (.pr (.sl 3) (.pr (.sl 4) (.pr (.sl 5) (.hole y4)))))) (.sl 6)),.row y12,.row y40,.row y15,.row y23,.row y24]
abbrev bl_6:List BPat:=[.lp 10485766 [4] (.cons (.ptr 2 []) .nil),.var (.hole (.one y21)),.var (.sl 3),.row (.int .i64)]
abbrev bl_7:List BPat:=[.lpt 10485766 [4] (.cons (.ptr 2 []) .nil),.var (.hole (.one y21)),.var (.sl 3),.row (.int .i64)]
abbrev bl_8:List BPat:=[.var (.hole y45),.var (.hole (.int .i64)),.var (.hole .bool)]
abbrev bl_9:List BPat:=[.var (.hole y45)]
abbrev bl_10:List BPat:=[.var (.hole y45),.var (.hole (.int .i64)),.var (.hole (.int .i64))]
abbrev bl_11:List BPat:=[.row y5,.var (.hole (.int .i64))]
abbrev bl_12:List BPat:=[.var (.hole y42)]
abbrev bl_13:List BPat:=[.var (.hole y45),.row y4]
abbrev bl_14:List BPat:=[.row (.int .i64)]
abbrev bl_15:List BPat:=[.var (.pr (.pr (.hole y39) (.pr (.sl 2) (.pr (.sl 3) (.pr (.sl 4) (.pr (.sl 5) (.hole y4)))))) (.sl 6)),.var (.hole y4),.row y12,.row y40,.row y15,.row y23,.row y24]
abbrev bl_31:List BPat:=[.var (.hole (.one y0)),.var (.pr (.hole (.int .i64)) (.pr .nl .nl)),.var (.hole y45),.var (.pr (.hole (.int .i64)) (.pr (.sl 5) (.sl 6))),.row (.int .i64),.row y24,.row y4]
abbrev bl_33:List BPat:=[.var (.pr (.hole y0) (.pr (.mp 1) (.pr (.hole y1) (.pr (.hole (.int .i64)) (.pr (.mp 2) (.pr (.mp 3) (.mp 4))))))),.mp y4 (.int .i64),.mp (.int .i64) (.int .i64),.mp (.int .i64) (.int .i64),.fm [1,3,5,6,7,11,12,14,15] (.cons (.fn 143 .nil (.cons (.ptr 5 []) .nil)) (.cons (.fn 144 .nil (.cons (.ptr 5 []) .nil)) (.cons (.fn 146 .nil (.cons (.ptr 5 []) .nil)) (.cons (.fn 147 .nil (.cons (.ptr 5 []) .nil)) (.cons (.fn 148 .nil (.cons (.ptr 5 []) .nil)) (.cons (.fn 149 .nil (.cons (.ptr 6 []) .nil)) (.cons (.fn 150 .nil (.cons (.ptr 6 []) .nil)) (.cons (.fn 151 .nil (.cons (.ptr 5 []) .nil)) (.cons (.fn 152 .nil (.cons (.ptr 5 []) .nil)) .nil))))))))),.var (.ptr 0 []),.var (.fn 141 .nil (.cons (.ptr 5 []) .nil))]
abbrev bl_34:List BPat:=[.var (.ptr 1 []),.var (.pr (.hole y0) (.pr (.mp 2) (.pr (.hole y1) (.pr (.hole (.int .i64)) (.pr (.mp 3) (.pr (.mp 4) (.mp 5))))))),.mp y4 (.int .i64),.mp (.int .i64) (.int .i64),.mp (.int .i64) (.int .i64),.fm [1,3,5,6,7,11,12,14,15] (.cons (.fn 143 .nil (.cons (.ptr 0 []) .nil)) (.cons (.fn 144 .nil (.cons (.ptr 0 []) .nil)) (.cons (.fn 146 .nil (.cons (.ptr 0 []) .nil)) (.cons (.fn 147 .nil (.cons (.ptr 0 []) .nil)) (.cons (.fn 148 .nil (.cons (.ptr 0 []) .nil)) (.cons (.fn 149 .nil (.cons (.ptr 6 []) .nil)) (.cons (.fn 150 .nil (.cons (.ptr 6 []) .nil)) (.cons (.fn 151 .nil (.cons (.ptr 0 []) .nil)) (.cons (.fn 152 .nil (.cons (.ptr 0 []) .nil)) .nil))))))))),.var (.fn 141 .nil (.cons (.ptr 0 []) .nil))]
abbrev bl_35:List BPat:=[.var (.fn 141 .nil (.cons (.ptr 1 []) .nil)),.var (.ptr 2 []),.var (.pr (.hole y0) (.pr (.mp 3) (.pr (.hole y1) (.pr (.hole (.int .i64)) (.pr (.mp 4) (.pr (.mp 5) (.mp 6))))))),.mp y4 (.int .i64),.mp (.int .i64) (.int .i64),.mp (.int .i64) (.int .i64),.fm [1,3,5,6,7,11,12,14,15] (.cons (.fn 143 .nil (.cons (.ptr 1 []) .nil)) (.cons (.fn 144 .nil (.cons (.ptr 1 []) .nil)) (.cons (.fn 146 .nil (.cons (.ptr 1 []) .nil)) (.cons (.fn 147 .nil (.cons (.ptr 1 []) .nil)) (.cons (.fn 148 .nil (.cons (.ptr 1 []) .nil)) (.cons (.fn 149 .nil (.cons (.ptr 0 []) .nil)) (.cons (.fn 150 .nil (.cons (.ptr 0 []) .nil)) (.cons (.fn 151 .nil (.cons (.ptr 1 []) .nil)) (.cons (.fn 152 .nil (.cons (.ptr 1 []) .nil)) .nil)))))))))]
abbrev ts_0:List Ty:=[(.int .i64),(.int .i64),(.int .i64)]
abbrev ts_1:List Ty:=[.bool]
abbrev ts_2:List Ty:=[(.int .i64)]
abbrev ts_3:List Ty:=[y0,(.int .i64),(.int .i64)]
abbrev ts_4:List Ty:=[(.slice y9),(.int .i64),(.int .i64),y39]
abbrev ts_5:List Ty:=[(.int .i64),(.int .i64)]
abbrev ts_6:List Ty:=[y39,(.slice y5)]
abbrev ts_7:List Ty:=[(.int .i64),(.slice y5),y10,(.int .i64),(.int .i64),(.slice y5),(.int .i64),(.int .i64),y39]
abbrev ts_8:List Ty:=[y10,(.int .i64),(.int .i64),y39]
abbrev ts_9:List Ty:=[(.int .i64),(.int .i64),(.int .i64),y4,y39,y4,y18,y41,y19,y26]
abbrev ts_10:List Ty:=[(.int .i64),y39,y4,y18,y41,y19,y26,y27]
abbrev ts_11:List Ty:=[y39,y4,y18,y41,y19,y26,y27]
abbrev ts_12:List Ty:=[(.slice y5),(.int .i64)]
abbrev ts_13:List Ty:=[(.int .i64),(.slice y2),(.int .i64),(.int .i64),y45,(.slice y4)]
abbrev ts_14:List Ty:=[y4,y5,y39,y4,y18,y41,y19,y26,y27]
abbrev ts_15:List Ty:=[y23,(.int .i64),(.int .i64)]
abbrev ts_19:List Ty:=[y27,y24,y0,y1,(.int .i64),(.slice y8),(.slice y4),(.slice y4)]
abbrev ts_20:List Ty:=[.bool,y0,y1,(.int .i64),(.slice y8),(.slice y4),(.slice y4)]
abbrev ts_21:List Ty:=[(.int .i64),y0,y1,(.int .i64),(.slice y8),(.slice y4),(.slice y4)]
abbrev ts_22:List Ty:=[y24,y0,y1,(.int .i64),(.slice y8),(.slice y4),(.slice y4)]
abbrev sl_0:List (Nat × Pat):=[(0,(.hole (.int .i64))),(1,(.hole (.int .i64))),(2,(.hole (.int .i64)))]
abbrev sl_1:List (Nat × Pat):=[(0,(.hole .bool))]
abbrev sl_2:List (Nat × Pat):=[(0,(.hole (.int .i64)))]
abbrev sl_3:List (Nat × Pat):=[(4,(.hole (.int .i64)))]
abbrev sl_4:List (Nat × Pat):=[(0,(.hole (.slice y2))),(1,(.fn 194 .nil (.cons (.ptr 0 []) .nil)))]
abbrev sl_5:List (Nat × Pat):=[(2,(.hole (.int .i64))),(3,(.hole (.int .i64)))]
abbrev sl_6:List (Nat × Pat):=[(0,(.hole y39))]
abbrev sl_7:List (Nat × Pat):=[(0,(.hole (.int .i64))),(1,(.hole (.int .i64)))]
abbrev sl_8:List (Nat × Pat):=[(0,(.hole y39)),(1,(.hole (.slice y5)))]
abbrev sl_9:List (Nat × Pat):=[(1,(.ptr 0 [])),(7,(.hole (.int .i64))),(8,(.hole (.slice y5))),(22,(.hole y10)),(23,(.hole (.int .i64))),(24,(.hole (.int .i64))),(33,(.hole (.slice y5))),(34,(.hole (.int .i64))),(35,(.hole (.int .i64)))]
abbrev sl_10:List (Nat × Pat):=[(2,(.hole (.int .i64))),(3,(.hole (.int .i64))),(4,(.hole (.int .i64)))]
abbrev sl_11:List (Nat × Pat):=[(1,(.ptr 0 [])),(22,(.hole y10)),(23,(.hole (.int .i64))),(24,(.hole (.int .i64)))]
abbrev sl_12:List (Nat × Pat):=[(0,(.hole y21)),(1,(.hole (.int .i64)))]
abbrev sl_13:List (Nat × Pat):=[(0,(.hole y40)),(1,(.hole (.int .i64)))]
abbrev sl_14:List (Nat × Pat):=[(0,(.ptr 0 [])),(1,(.hole (.int .i64))),(2,(.hole (.int .i64)))]
abbrev sl_15:List (Nat × Pat):=[(0,(.ptr 0 []))]
abbrev sl_16:List (Nat × Pat):=[(0,(.hole y0)),(1,(.hole (.int .i64)))]
abbrev sl_17:List (Nat × Pat):=[(0,(.hole y5))]
abbrev sl_18:List (Nat × Pat):=[(0,(.hole (.slice y5)))]
abbrev sl_19:List (Nat × Pat):=[(0,(.hole y0)),(1,(.hole (.int .i64))),(2,(.hole (.int .i64)))]
abbrev sl_20:List (Nat × Pat):=[(0,(.hole y5)),(1,(.ptr 0 [])),(2,(.ptr 1 [])),(3,(.ptr 2 []))]
abbrev sl_21:List (Nat × Pat):=[(0,(.hole (.slice y5))),(1,(.fn 110 .nil (.cons (.ptr 0 []) (.cons (.ptr 1 []) (.cons (.ptr 2 []) .nil)))))]
abbrev sl_22:List (Nat × Pat):=[(0,(.hole (.slice y5))),(1,(.fn 115 .nil (.cons (.ptr 0 []) (.cons (.ptr 1 []) (.cons (.ptr 2 []) .nil)))))]
abbrev sl_23:List (Nat × Pat):=[(0,(.hole (.slice y5))),(1,(.hole (.int .i64)))]
abbrev sl_24:List (Nat × Pat):=[(0,(.hole (.slice y4))),(1,(.hole y4))]
abbrev sl_25:List (Nat × Pat):=[(0,(.ptr 0 [])),(1,(.hole (.int .i64)))]
abbrev sl_26:List (Nat × Pat):=[(0,(.ptr 0 [])),(1,(.hole y4)),(2,(.hole y5))]
abbrev sl_27:List (Nat × Pat):=[(0,(.hole y40)),(1,(.hole y5))]
abbrev sl_28:List (Nat × Pat):=[(0,(.hole y40)),(1,(.hole y30)),(2,(.hole (.int .i64)))]
abbrev sl_29:List (Nat × Pat):=[(0,(.ptr 0 [])),(1,(.hole y5)),(2,(.hole (.int .i64))),(3,(.hole .bool))]
abbrev sl_30:List (Nat × Pat):=[(0,(.hole y23)),(1,(.hole y5))]
abbrev sl_31:List (Nat × Pat):=[(0,(.hole y23)),(1,(.hole (.int .i64))),(2,(.hole (.int .i64)))]
abbrev sl_34:List (Nat × Pat):=[(1,(.ptr 0 [])),(27,(.hole (.slice y9))),(28,(.hole (.int .i64))),(29,(.hole (.int .i64)))]
abbrev sl_43:List (Nat × Pat):=[(0,(.hole y39)),(1,(.hole y0)),(2,(.hole (.int .i64)))]
abbrev sl_44:List (Nat × Pat):=[(0,(.ptr 0 [])),(1,(.hole y27)),(2,(.hole y24))]
abbrev sl_45:List (Nat × Pat):=[(0,(.hole y24)),(1,(.ptr 0 []))]
abbrev Zks:Shape:=⟨sl_0,[],ts_0,0⟩
abbrev Zpa:Shape:=⟨sl_1,[],ts_1,0⟩
def Z4e (x:T4):Option (Bool) :=
 bif (decide (x.1 ≥ x.2.1)) then
 some (decide (x.1 ≤ x.2.2))
 else
 some false
abbrev Zts:=Spec.shp Zks Zpa Z4e
def Zdv:Ctx:=mC [] [] 15 0
theorem Z4f:Sound Tryz.prog 191 (Zts) :=
 tS Zdv Tryz.f191 trivial
abbrev Zl1:Shape:=⟨sl_2,[],ts_2,0⟩
abbrev Zpj:Shape:=⟨sl_1,[],ts_1,0⟩
def Z4v (x:(Int)):Option (Bool) :=
 (Z4e (x,(Int.negSucc 0),(3:Int))).bind fun r14 =>
 some (Bool.not r14)
abbrev Zu1:=Spec.shp Zl1 Zpj Z4v
def Ze4:Ctx:=mC [(191,[],Zts)] [] 6 0
theorem Z4w:Sound Tryz.prog 192 (Zu1) :=
 tS Ze4 Tryz.f192 ⟨Z4f,trivial⟩
abbrev Zii:Shape:=⟨[(0,(.hole y0)),(1,(.fn 192 .nil .nil)),(7,(.hole (.int .i64))),(8,(.hole (.int .i64)))],[],ts_3,0⟩
abbrev Zhj:List (ETag × Shape):=[(.ret,⟨sl_3,[],ts_2,0⟩),(.exit 0,⟨[],[],[],0⟩)]
def Zax (x:T9):Option (T9 ⊕ ((Int) ⊕ Unit)) :=
 bif (decide (x.2.2 < x.2.1)) then
 bif (inb x.2.2 (List.length x.1)) then
 (Z4v (getAt (0:Int) x.1 (toN x.2.2))).bind fun r13 =>
 bif r13 then
 some (.inr (.inl x.2.2))
 else
 some (.inl (x.1,x.2.1,(IntKind.wrap .i64 (x.2.2+(1:Int)))))
 else
 none
 else
 some (.inr (.inr ()))
def Zfn:Ctx:=mC [(192,[],Zu1)] [] 19 0
theorem Zay:CSound Tryz.prog ⟨19,0,true⟩ (.loop (loopOf 3 Tryz.f140)) (pieceSpec Zii Zhj (loop Zax)) :=
 tL Zfn 3 Tryz.f140 ⟨Z4w,trivial⟩
abbrev Zm7:Shape:=⟨[(0,(.hole y0)),(1,(.fn 192 .nil .nil))],[],[y0],0⟩
abbrev Zqp:Shape:=⟨sl_2,[],ts_2,0⟩
def Z78 (x:(List Int)):Option (Int) :=
 (loop Zax (x,(((List.length x):Nat):Int),(0:Int))).bind fun r12 =>
 match r12 with
 | .inl y13 =>
 some y13
 | .inr y13 =>
 some (Int.negSucc 0)
abbrev Zv6:=Spec.shp Zm7 Zqp Z78
def Zfm:Ctx:=mC [(192,[],Zu1)] [(0,3,pieceSpec Zii Zhj (loop Zax))] 19 0
theorem Z79:Sound Tryz.prog 140 (Zv6) :=
 tS Zfm Tryz.f140 ⟨Z4w,trivial⟩ ⟨(pL 3 Tryz.f140 Zay),trivial⟩
abbrev Zlv:Shape:=⟨[(0,(.hole y0)),(1,(.fn 192 .nil .nil))],[],[y0],0⟩
abbrev Zqd:Shape:=⟨sl_1,[],ts_1,0⟩
def Z6k (x:(List Int)):Option (Bool) :=
 (Z78 x).bind fun r11 =>
 some (decide (r11 ≥ (0:Int)))
abbrev Zuu:=Spec.shp Zlv Zqd Z6k
def Zf1:Ctx:=mC [(140,[192],Zv6)] [] 9 0
theorem Z6l:Sound Tryz.prog 86 (Zuu) :=
 tS Zf1 Tryz.f86 ⟨Z79,trivial⟩
abbrev Zl2:Shape:=⟨[(0,(.hole y2)),(1,(.ptr 0 []))],bl_0,[y2,y39],0⟩
abbrev Zpk:Shape:=⟨sl_1,bl_0,[.bool,y39],1⟩
def Z4x (x:(T0 × T47)):Option (Bool × T47) :=
 (Z4e (x.1.2,(0:Int),(IntKind.wrap .i64 ((((List.length x.2.1):Nat):Int) - (1:Int))))).bind fun r16 =>
 some ((Bool.not r16),x.2)
abbrev Zu2:=Spec.shp Zl2 Zpk Z4x
def Ze5:Ctx:=mC [(191,[],Zts)] [] 12 1
theorem Z4y:Sound Tryz.prog 194 (Zu2) :=
 tS Ze5 Tryz.f194 ⟨Z4f,trivial⟩
abbrev Zia:Shape:=⟨[(0,(.hole (.slice y2))),(1,(.fn 194 .nil (.cons (.ptr 0 []) .nil))),(7,(.hole (.int .i64))),(8,(.hole (.int .i64)))],bl_0,[(.slice y2),(.int .i64),(.int .i64),y39],1⟩
abbrev Zhb:List (ETag × Shape):=[(.ret,⟨sl_3,bl_0,[(.int .i64),y39],1⟩),(.exit 0,⟨[],bl_0,[y39],1⟩)]
def Zah (x:(List T0 × Int × Int × T47)):Option ((List T0 × Int × Int × T47) ⊕ ((Int × T47) ⊕ (T47))) :=
 bif (decide (x.2.2.1 < x.2.1)) then
 bif (inb x.2.2.1 (List.length x.1)) then
 (Z4x ((getAt (false,(0:Int)) x.1 (toN x.2.2.1)),x.2.2.2)).bind fun r15 =>
 bif r15.1 then
 some (.inr (.inl (x.2.2.1,r15.2)))
 else
 some (.inl (x.1,x.2.1,(IntKind.wrap .i64 (x.2.2.1+(1:Int))),r15.2))
 else
 none
 else
 some (.inr (.inr x.2.2.2))
def Zf7:Ctx:=mC [(194,[],Zu2)] [] 19 1
theorem Zai:CSound Tryz.prog ⟨19,1,true⟩ (.loop (loopOf 3 Tryz.f222)) (pieceSpec Zia Zhb (loop Zah)) :=
 tL Zf7 3 Tryz.f222 ⟨Z4y,trivial⟩
abbrev Zlz:Shape:=⟨sl_4,bl_0,[(.slice y2),y39],0⟩
abbrev Zqh:Shape:=⟨sl_2,bl_0,[(.int .i64),y39],1⟩
def Z6s (x:(List T0 × T47)):Option (Int × T47) :=
 (loop Zah (x.1,(((List.length x.1):Nat):Int),(0:Int),x.2)).bind fun r14 =>
 match r14 with
 | .inl y15 =>
 some (y15.1,y15.2)
 | .inr y15 =>
 some ((Int.negSucc 0),y15)
abbrev Zuy:=Spec.shp Zlz Zqh Z6s
def Zf6:Ctx:=mC [(194,[],Zu2)] [(0,3,pieceSpec Zia Zhb (loop Zah))] 19 1
theorem Z6t:Sound Tryz.prog 222 (Zuy) :=
 tS Zf6 Tryz.f222 ⟨Z4y,trivial⟩ ⟨(pL 3 Tryz.f222 Zai),trivial⟩
abbrev Zlp:Shape:=⟨sl_4,bl_0,[(.slice y2),y39],0⟩
abbrev Zq7:Shape:=⟨sl_1,bl_0,[.bool,y39],1⟩
def Z68 (x:(List T0 × T47)):Option (Bool × T47) :=
 (Z6s (x.1,x.2)).bind fun r13 =>
 some ((decide (r13.1 ≥ (0:Int))),r13.2)
abbrev Zuo:=Spec.shp Zlp Zq7 Z68
def Zev:Ctx:=mC [(222,[194],Zuy)] [] 9 1
theorem Z69:Sound Tryz.prog 193 (Zuo) :=
 tS Zev Tryz.f193 ⟨Z6t,trivial⟩
abbrev Zi6:Shape:=⟨[(1,(.ptr 0 [])),(45,(.hole (.slice y9))),(46,(.hole (.int .i64))),(47,(.hole (.int .i64)))],bl_0,ts_4,0⟩
abbrev Zh7:List (ETag × Shape):=[(.ret,⟨sl_5,[],ts_5,0⟩),(.exit 0,⟨[],[],[],0⟩)]
def Za9 (x:T53):Option (T53 ⊕ ((Int × Int) ⊕ Unit)) :=
 bif (decide (x.2.2.1 < x.2.1)) then
 bif (inb x.2.2.1 (List.length x.1)) then
 bif (decide ((((List.length (getAt (([]:List T0),false) x.1 (toN x.2.2.1)).1):Nat):Int) > (4:Int))) then
 some (.inr (.inl (x.2.2.1,(2:Int))))
 else
 (Z68 ((getAt (([]:List T0),false) x.1 (toN x.2.2.1)).1,x.2.2.2)).bind fun r12 =>
 bif r12.1 then
 some (.inr (.inl (x.2.2.1,(3:Int))))
 else
 some (.inl (x.1,x.2.1,(IntKind.wrap .i64 (x.2.2.1+(1:Int))),r12.2))
 else
 none
 else
 some (.inr (.inr ()))
def Ze6:Ctx:=mC [(191,[],Zts),(86,[192],Zuu),(193,[194],Zuo)] [] 65 0
theorem Zaa:CSound Tryz.prog ⟨65,0,true⟩ (.loop (loopOf 8 Tryz.f154)) (pieceSpec Zi6 Zh7 (loop Za9)) :=
 tL Ze6 8 Tryz.f154 ⟨Z4f,Z6l,Z69,trivial⟩
abbrev Zl0:Shape:=⟨sl_6,[],[y39],0⟩
abbrev Zpi:Shape:=⟨sl_7,[],ts_5,0⟩
def Z4u (x:(T47)):Option (Int × Int) :=
 bif (decide ((((List.length x.1):Nat):Int) ≤ (4:Int))) then
 (Z4e (x.2.1,(0:Int),(2:Int))).bind fun r6 =>
 bif r6 then
 (Z4e (x.2.2.1,(0:Int),(2:Int))).bind fun r7 =>
 bif r7 then
 (Z4e (x.2.2.2.1,(0:Int),(4:Int))).bind fun r8 =>
 bif (Bool.not r8) then
 some ((Int.negSucc 0),(2:Int))
 else
 bif (decide ((((List.length x.2.2.2.2.1):Nat):Int) > (4:Int))) then
 some ((Int.negSucc 0),(2:Int))
 else
 (Z4e ((((List.length x.2.2.2.2.2):Nat):Int),(1:Int),(6:Int))).bind fun r9 =>
 bif (Bool.not r9) then
 some ((Int.negSucc 0),(2:Int))
 else
 (Z6k x.1).bind fun r10 =>
 bif r10 then
 some ((Int.negSucc 0),(3:Int))
 else
 (loop Za9 (x.2.2.2.2.1,(((List.length x.2.2.2.2.1):Nat):Int),(0:Int),x)).bind fun r11 =>
 match r11 with
 | .inl y12 =>
 some (y12.1,y12.2)
 | .inr y12 =>
 some ((Int.negSucc 0),(0:Int))
 else
 some ((Int.negSucc 0),(2:Int))
 else
 some ((Int.negSucc 0),(2:Int))
 else
 some ((Int.negSucc 0),(2:Int))
abbrev Zu0:=Spec.shp Zl0 Zpi Z4u
def Ze3:Ctx:=mC [(191,[],Zts),(86,[192],Zuu),(193,[194],Zuo)] [(0,8,pieceSpec Zi6 Zh7 (loop Za9))] 65 0
theorem Z4z:Sound Tryz.prog 154 (Zu0) :=
 tS Ze3 Tryz.f154 ⟨Z4f,Z6l,Z69,trivial⟩ ⟨(pL 8 Tryz.f154 Zaa),trivial⟩
abbrev Zkx:Shape:=⟨[],[],[],0⟩
abbrev Zpf:Shape:=⟨[(0,(.pr (.one (.fn 223 .nil .nil)) (.pr (.one (.fn 224 .nil .nil)) (.pr (.one (.fn 224 .nil .nil)) (.pr (.one (.fn 224 .nil .nil)) (.pr (.one (.fn 225 .nil .nil)) (.pr (.one (.fn 226 .nil .nil)) (.pr (.one (.fn 226 .nil .nil)) (.pr (.one (.fn 227 .nil .nil)) (.pr (.one (.fn 227 .nil .nil)) (.pr (.one (.fn 228 .nil .nil)) (.pr (.one (.fn 229 .nil .nil)) (.pr (.one (.fn 229 .nil .nil)) (.pr (.one (.fn 230 .nil .nil)) (.one (.fn 230 .nil .nil))))))))))))))))],[],[],0⟩
def Z4o (x:Unit):Option Unit :=
 some ()
abbrev Ztx:=Spec.shp Zkx Zpf Z4o
def Ze0:Ctx:=mC [] [] 16 0
theorem Z4p:Sound Tryz.prog 195 (Ztx) :=
 tS Ze0 Tryz.f195 trivial
abbrev Zkv:Shape:=⟨sl_8,[],ts_6,0⟩
abbrev Zpd:Shape:=⟨sl_2,[],ts_2,0⟩
def Z4k (x:T50):Option (Int) :=
 some (1:Int)
abbrev Ztv:=Spec.shp Zkv Zpd Z4k
def Zdy:Ctx:=mC [] [] 5 0
theorem Z4l:Sound Tryz.prog 223 (Ztv) :=
 tS Zdy Tryz.f223 trivial
abbrev Zkr:Shape:=⟨sl_8,[],ts_6,0⟩
abbrev Zp9:Shape:=⟨sl_2,[],ts_2,0⟩
def Z4c (x:T50):Option (Int) :=
 some (((List.length x.1.1):Nat):Int)
abbrev Ztr:=Spec.shp Zkr Zp9 Z4c
def Zdu:Ctx:=mC [] [] 8 0
theorem Z4d:Sound Tryz.prog 224 (Ztr) :=
 tS Zdu Tryz.f224 trivial
abbrev Zkz:Shape:=⟨sl_8,[],ts_6,0⟩
abbrev Zph:Shape:=⟨sl_2,[],ts_2,0⟩
def Z4s (x:T50):Option (Int) :=
 some (((List.length x.1.2.2.2.2.1):Nat):Int)
abbrev Ztz:=Spec.shp Zkz Zph Z4s
def Ze2:Ctx:=mC [] [] 8 0
theorem Z4t:Sound Tryz.prog 225 (Ztz) :=
 tS Ze2 Tryz.f225 trivial
abbrev Zku:Shape:=⟨sl_8,[],ts_6,0⟩
abbrev Zpc:Shape:=⟨sl_2,[],ts_2,0⟩
def Z4i (x:T50):Option (Int) :=
 some x.1.2.1
abbrev Ztu:=Spec.shp Zku Zpc Z4i
def Zdx:Ctx:=mC [] [] 7 0
theorem Z4j:Sound Tryz.prog 226 (Ztu) :=
 tS Zdx Tryz.f226 trivial
abbrev Zkw:Shape:=⟨sl_8,[],ts_6,0⟩
abbrev Zpe:Shape:=⟨sl_2,[],ts_2,0⟩
def Z4m (x:T50):Option (Int) :=
 some x.1.2.2.1
abbrev Ztw:=Spec.shp Zkw Zpe Z4m
def Zdz:Ctx:=mC [] [] 7 0
theorem Z4n:Sound Tryz.prog 227 (Ztw) :=
 tS Zdz Tryz.f227 trivial
abbrev Zkq:Shape:=⟨sl_8,[],ts_6,0⟩
abbrev Zp8:Shape:=⟨sl_2,[],ts_2,0⟩
def Z4a (x:T50):Option (Int) :=
 some (((List.length x.1.2.2.2.2.2):Nat):Int)
abbrev Ztq:=Spec.shp Zkq Zp8 Z4a
def Zdt:Ctx:=mC [] [] 8 0
theorem Z4b:Sound Tryz.prog 228 (Ztq) :=
 tS Zdt Tryz.f228 trivial
abbrev Zl3:Shape:=⟨sl_8,[],ts_6,0⟩
abbrev Zpl:Shape:=⟨sl_2,[],ts_2,0⟩
def Z50 (x:T50):Option (Int) :=
 some x.1.2.2.2.1
abbrev Zu3:=Spec.shp Zl3 Zpl Z50
def Ze7:Ctx:=mC [] [] 7 0
theorem Z51:Sound Tryz.prog 229 (Zu3) :=
 tS Ze7 Tryz.f229 trivial
abbrev Zky:Shape:=⟨sl_8,[],ts_6,0⟩
abbrev Zpg:Shape:=⟨sl_2,[],ts_2,0⟩
def Z4q (x:T50):Option (Int) :=
 some (IntKind.wrap .i64 ((((List.length x.2):Nat):Int)+(1:Int)))
abbrev Zty:=Spec.shp Zky Zpg Z4q
def Ze1:Ctx:=mC [] [] 8 0
theorem Z4r:Sound Tryz.prog 230 (Zty) :=
 tS Ze1 Tryz.f230 trivial
abbrev Zkt:Shape:=⟨[(0,(.hole y39)),(1,(.hole (.slice y5))),(2,(.hole y5))],[],[y39,(.slice y5),y5],0⟩
abbrev Zpb:Shape:=⟨sl_2,[],ts_2,0⟩
def Z4g (x:(T47 × List (T7) × T7)):Option (Int) :=
 (Z4e (x.2.2.1,(0:Int),(13:Int))).bind fun r9 =>
 bif (Bool.not r9) then
 some (11:Int)
 else
 bif (x.2.2.1 == (7:Int)) then
 (Z4o ()).bind fun r10 =>
 bif (x.2.2.1 == (((0:Nat):Nat):Int)) then
 (Z4k (x.1,x.2.1)).bind fun r11 =>
 (Z4e (x.2.2.2.1,(0:Int),(IntKind.wrap .i64 (r11 - (1:Int))))).bind fun r12 =>
 bif (Bool.not r12) then
 some (3:Int)
 else
 (Z4e (x.2.2.2.2,(0:Int),(((List.length x.2.1):Nat):Int))).bind fun r13 =>
 bif (Bool.not r13) then
 some (3:Int)
 else
 some (0:Int)
 else
 bif (x.2.2.1 == ((((0:Nat)+(1:Nat)):Nat):Int)) then
 (Z4c (x.1,x.2.1)).bind fun r11 =>
 (Z4e (x.2.2.2.1,(0:Int),(IntKind.wrap .i64 (r11 - (1:Int))))).bind fun r12 =>
 bif (Bool.not r12) then
 some (3:Int)
 else
 (Z4e (x.2.2.2.2,(0:Int),(((List.length x.2.1):Nat):Int))).bind fun r13 =>
 bif (Bool.not r13) then
 some (3:Int)
 else
 some (0:Int)
 else
 bif (x.2.2.1 == (((((0:Nat)+(1:Nat))+(1:Nat)):Nat):Int)) then
 (Z4c (x.1,x.2.1)).bind fun r11 =>
 (Z4e (x.2.2.2.1,(0:Int),(IntKind.wrap .i64 (r11 - (1:Int))))).bind fun r12 =>
 bif (Bool.not r12) then
 some (3:Int)
 else
 (Z4e (x.2.2.2.2,(0:Int),(((List.length x.2.1):Nat):Int))).bind fun r13 =>
 bif (Bool.not r13) then
 some (3:Int)
 else
 some (0:Int)
 else
 bif (x.2.2.1 == ((((((0:Nat)+(1:Nat))+(1:Nat))+(1:Nat)):Nat):Int)) then
 (Z4c (x.1,x.2.1)).bind fun r11 =>
 (Z4e (x.2.2.2.1,(0:Int),(IntKind.wrap .i64 (r11 - (1:Int))))).bind fun r12 =>
 bif (Bool.not r12) then
 some (3:Int)
 else
 (Z4e (x.2.2.2.2,(0:Int),(((List.length x.2.1):Nat):Int))).bind fun r13 =>
 bif (Bool.not r13) then
 some (3:Int)
 else
 some (0:Int)
 else
 bif (x.2.2.1 == (((((((0:Nat)+(1:Nat))+(1:Nat))+(1:Nat))+(1:Nat)):Nat):Int)) then
 (Z4s (x.1,x.2.1)).bind fun r11 =>
 (Z4e (x.2.2.2.1,(0:Int),(IntKind.wrap .i64 (r11 - (1:Int))))).bind fun r12 =>
 bif (Bool.not r12) then
 some (3:Int)
 else
 (Z4e (x.2.2.2.2,(0:Int),(((List.length x.2.1):Nat):Int))).bind fun r13 =>
 bif (Bool.not r13) then
 some (3:Int)
 else
 some (0:Int)
 else
 bif (x.2.2.1 == ((((((((0:Nat)+(1:Nat))+(1:Nat))+(1:Nat))+(1:Nat))+(1:Nat)):Nat):Int)) then
 (Z4i (x.1,x.2.1)).bind fun r11 =>
 (Z4e (x.2.2.2.1,(0:Int),(IntKind.wrap .i64 (r11 - (1:Int))))).bind fun r12 =>
 bif (Bool.not r12) then
 some (3:Int)
 else
 (Z4e (x.2.2.2.2,(0:Int),(((List.length x.2.1):Nat):Int))).bind fun r13 =>
 bif (Bool.not r13) then
 some (3:Int)
 else
 some (0:Int)
 else
 bif (x.2.2.1 == (((((((((0:Nat)+(1:Nat))+(1:Nat))+(1:Nat))+(1:Nat))+(1:Nat))+(1:Nat)):Nat):Int)) then
 (Z4i (x.1,x.2.1)).bind fun r11 =>
 (Z4e (x.2.2.2.1,(0:Int),(IntKind.wrap .i64 (r11 - (1:Int))))).bind fun r12 =>
 bif (Bool.not r12) then
 some (3:Int)
 else
 (Z4e (x.2.2.2.2,(0:Int),(((List.length x.2.1):Nat):Int))).bind fun r13 =>
 bif (Bool.not r13) then
 some (3:Int)
 else
 some (0:Int)
 else
 bif (x.2.2.1 == ((((((((((0:Nat)+(1:Nat))+(1:Nat))+(1:Nat))+(1:Nat))+(1:Nat))+(1:Nat))+(1:Nat)):Nat):Int)) then
 (Z4m (x.1,x.2.1)).bind fun r11 =>
 (Z4e (x.2.2.2.1,(0:Int),(IntKind.wrap .i64 (r11 - (1:Int))))).bind fun r12 =>
 bif (Bool.not r12) then
 some (3:Int)
 else
 (Z4e (x.2.2.2.2,(0:Int),(((List.length x.2.1):Nat):Int))).bind fun r13 =>
 bif (Bool.not r13) then
 some (3:Int)
 else
 some (0:Int)
 else
 bif (x.2.2.1 == (((((((((((0:Nat)+(1:Nat))+(1:Nat))+(1:Nat))+(1:Nat))+(1:Nat))+(1:Nat))+(1:Nat))+(1:Nat)):Nat):Int)) then
 (Z4m (x.1,x.2.1)).bind fun r11 =>
 (Z4e (x.2.2.2.1,(0:Int),(IntKind.wrap .i64 (r11 - (1:Int))))).bind fun r12 =>
 bif (Bool.not r12) then
 some (3:Int)
 else
 (Z4e (x.2.2.2.2,(0:Int),(((List.length x.2.1):Nat):Int))).bind fun r13 =>
 bif (Bool.not r13) then
 some (3:Int)
 else
 some (0:Int)
 else
 bif (x.2.2.1 == ((((((((((((0:Nat)+(1:Nat))+(1:Nat))+(1:Nat))+(1:Nat))+(1:Nat))+(1:Nat))+(1:Nat))+(1:Nat))+(1:Nat)):Nat):Int)) then
 (Z4a (x.1,x.2.1)).bind fun r11 =>
 (Z4e (x.2.2.2.1,(0:Int),(IntKind.wrap .i64 (r11 - (1:Int))))).bind fun r12 =>
 bif (Bool.not r12) then
 some (3:Int)
 else
 (Z4e (x.2.2.2.2,(0:Int),(((List.length x.2.1):Nat):Int))).bind fun r13 =>
 bif (Bool.not r13) then
 some (3:Int)
 else
 some (0:Int)
 else
 bif (x.2.2.1 == (((((((((((((0:Nat)+(1:Nat))+(1:Nat))+(1:Nat))+(1:Nat))+(1:Nat))+(1:Nat))+(1:Nat))+(1:Nat))+(1:Nat))+(1:Nat)):Nat):Int)) then
 (Z50 (x.1,x.2.1)).bind fun r11 =>
 (Z4e (x.2.2.2.1,(0:Int),(IntKind.wrap .i64 (r11 - (1:Int))))).bind fun r12 =>
 bif (Bool.not r12) then
 some (3:Int)
 else
 (Z4e (x.2.2.2.2,(0:Int),(((List.length x.2.1):Nat):Int))).bind fun r13 =>
 bif (Bool.not r13) then
 some (3:Int)
 else
 some (0:Int)
 else
 bif (x.2.2.1 == ((((((((((((((0:Nat)+(1:Nat))+(1:Nat))+(1:Nat))+(1:Nat))+(1:Nat))+(1:Nat))+(1:Nat))+(1:Nat))+(1:Nat))+(1:Nat))+(1:Nat)):Nat):Int)) then
 (Z50 (x.1,x.2.1)).bind fun r11 =>
 (Z4e (x.2.2.2.1,(0:Int),(IntKind.wrap .i64 (r11 - (1:Int))))).bind fun r12 =>
 bif (Bool.not r12) then
 some (3:Int)
 else
 (Z4e (x.2.2.2.2,(0:Int),(((List.length x.2.1):Nat):Int))).bind fun r13 =>
 bif (Bool.not r13) then
 some (3:Int)
 else
 some (0:Int)
 else
 bif (x.2.2.1 == (((((((((((((((0:Nat)+(1:Nat))+(1:Nat))+(1:Nat))+(1:Nat))+(1:Nat))+(1:Nat))+(1:Nat))+(1:Nat))+(1:Nat))+(1:Nat))+(1:Nat))+(1:Nat)):Nat):Int)) then
 (Z4q (x.1,x.2.1)).bind fun r11 =>
 (Z4e (x.2.2.2.1,(0:Int),(IntKind.wrap .i64 (r11 - (1:Int))))).bind fun r12 =>
 bif (Bool.not r12) then
 some (3:Int)
 else
 (Z4e (x.2.2.2.2,(0:Int),(((List.length x.2.1):Nat):Int))).bind fun r13 =>
 bif (Bool.not r13) then
 some (3:Int)
 else
 some (0:Int)
 else
 bif (x.2.2.1 == ((((((((((((((((0:Nat)+(1:Nat))+(1:Nat))+(1:Nat))+(1:Nat))+(1:Nat))+(1:Nat))+(1:Nat))+(1:Nat))+(1:Nat))+(1:Nat))+(1:Nat))+(1:Nat))+(1:Nat)):Nat):Int)) then
 (Z4q (x.1,x.2.1)).bind fun r11 =>
 (Z4e (x.2.2.2.1,(0:Int),(IntKind.wrap .i64 (r11 - (1:Int))))).bind fun r12 =>
 bif (Bool.not r12) then
 some (3:Int)
 else
 (Z4e (x.2.2.2.2,(0:Int),(((List.length x.2.1):Nat):Int))).bind fun r13 =>
 bif (Bool.not r13) then
 some (3:Int)
 else
 some (0:Int)
 else
 none
 else
 (Z4o ()).bind fun r10 =>
 bif (x.2.2.1 == (((0:Nat):Nat):Int)) then
 (Z4k (x.1,x.2.1)).bind fun r11 =>
 (Z4e (x.2.2.2.1,(0:Int),(IntKind.wrap .i64 (r11 - (1:Int))))).bind fun r12 =>
 bif (Bool.not r12) then
 some (3:Int)
 else
 (Z4e (x.2.2.2.2,(0:Int),(0:Int))).bind fun r13 =>
 bif (Bool.not r13) then
 some (3:Int)
 else
 some (0:Int)
 else
 bif (x.2.2.1 == ((((0:Nat)+(1:Nat)):Nat):Int)) then
 (Z4c (x.1,x.2.1)).bind fun r11 =>
 (Z4e (x.2.2.2.1,(0:Int),(IntKind.wrap .i64 (r11 - (1:Int))))).bind fun r12 =>
 bif (Bool.not r12) then
 some (3:Int)
 else
 (Z4e (x.2.2.2.2,(0:Int),(0:Int))).bind fun r13 =>
 bif (Bool.not r13) then
 some (3:Int)
 else
 some (0:Int)
 else
 bif (x.2.2.1 == (((((0:Nat)+(1:Nat))+(1:Nat)):Nat):Int)) then
 (Z4c (x.1,x.2.1)).bind fun r11 =>
 (Z4e (x.2.2.2.1,(0:Int),(IntKind.wrap .i64 (r11 - (1:Int))))).bind fun r12 =>
 bif (Bool.not r12) then
 some (3:Int)
 else
 (Z4e (x.2.2.2.2,(0:Int),(0:Int))).bind fun r13 =>
 bif (Bool.not r13) then
 some (3:Int)
 else
 some (0:Int)
 else
 bif (x.2.2.1 == ((((((0:Nat)+(1:Nat))+(1:Nat))+(1:Nat)):Nat):Int)) then
 (Z4c (x.1,x.2.1)).bind fun r11 =>
 (Z4e (x.2.2.2.1,(0:Int),(IntKind.wrap .i64 (r11 - (1:Int))))).bind fun r12 =>
 bif (Bool.not r12) then
 some (3:Int)
 else
 (Z4e (x.2.2.2.2,(0:Int),(0:Int))).bind fun r13 =>
 bif (Bool.not r13) then
 some (3:Int)
 else
 some (0:Int)
 else
 bif (x.2.2.1 == (((((((0:Nat)+(1:Nat))+(1:Nat))+(1:Nat))+(1:Nat)):Nat):Int)) then
 (Z4s (x.1,x.2.1)).bind fun r11 =>
 (Z4e (x.2.2.2.1,(0:Int),(IntKind.wrap .i64 (r11 - (1:Int))))).bind fun r12 =>
 bif (Bool.not r12) then
 some (3:Int)
 else
 (Z4e (x.2.2.2.2,(0:Int),(0:Int))).bind fun r13 =>
 bif (Bool.not r13) then
 some (3:Int)
 else
 some (0:Int)
 else
 bif (x.2.2.1 == ((((((((0:Nat)+(1:Nat))+(1:Nat))+(1:Nat))+(1:Nat))+(1:Nat)):Nat):Int)) then
 (Z4i (x.1,x.2.1)).bind fun r11 =>
 (Z4e (x.2.2.2.1,(0:Int),(IntKind.wrap .i64 (r11 - (1:Int))))).bind fun r12 =>
 bif (Bool.not r12) then
 some (3:Int)
 else
 (Z4e (x.2.2.2.2,(0:Int),(0:Int))).bind fun r13 =>
 bif (Bool.not r13) then
 some (3:Int)
 else
 some (0:Int)
 else
 bif (x.2.2.1 == (((((((((0:Nat)+(1:Nat))+(1:Nat))+(1:Nat))+(1:Nat))+(1:Nat))+(1:Nat)):Nat):Int)) then
 (Z4i (x.1,x.2.1)).bind fun r11 =>
 (Z4e (x.2.2.2.1,(0:Int),(IntKind.wrap .i64 (r11 - (1:Int))))).bind fun r12 =>
 bif (Bool.not r12) then
 some (3:Int)
 else
 (Z4e (x.2.2.2.2,(0:Int),(0:Int))).bind fun r13 =>
 bif (Bool.not r13) then
 some (3:Int)
 else
 some (0:Int)
 else
 bif (x.2.2.1 == ((((((((((0:Nat)+(1:Nat))+(1:Nat))+(1:Nat))+(1:Nat))+(1:Nat))+(1:Nat))+(1:Nat)):Nat):Int)) then
 (Z4m (x.1,x.2.1)).bind fun r11 =>
 (Z4e (x.2.2.2.1,(0:Int),(IntKind.wrap .i64 (r11 - (1:Int))))).bind fun r12 =>
 bif (Bool.not r12) then
 some (3:Int)
 else
 (Z4e (x.2.2.2.2,(0:Int),(0:Int))).bind fun r13 =>
 bif (Bool.not r13) then
 some (3:Int)
 else
 some (0:Int)
 else
 bif (x.2.2.1 == (((((((((((0:Nat)+(1:Nat))+(1:Nat))+(1:Nat))+(1:Nat))+(1:Nat))+(1:Nat))+(1:Nat))+(1:Nat)):Nat):Int)) then
 (Z4m (x.1,x.2.1)).bind fun r11 =>
 (Z4e (x.2.2.2.1,(0:Int),(IntKind.wrap .i64 (r11 - (1:Int))))).bind fun r12 =>
 bif (Bool.not r12) then
 some (3:Int)
 else
 (Z4e (x.2.2.2.2,(0:Int),(0:Int))).bind fun r13 =>
 bif (Bool.not r13) then
 some (3:Int)
 else
 some (0:Int)
 else
 bif (x.2.2.1 == ((((((((((((0:Nat)+(1:Nat))+(1:Nat))+(1:Nat))+(1:Nat))+(1:Nat))+(1:Nat))+(1:Nat))+(1:Nat))+(1:Nat)):Nat):Int)) then
 (Z4a (x.1,x.2.1)).bind fun r11 =>
 (Z4e (x.2.2.2.1,(0:Int),(IntKind.wrap .i64 (r11 - (1:Int))))).bind fun r12 =>
 bif (Bool.not r12) then
 some (3:Int)
 else
 (Z4e (x.2.2.2.2,(0:Int),(0:Int))).bind fun r13 =>
 bif (Bool.not r13) then
 some (3:Int)
 else
 some (0:Int)
 else
 bif (x.2.2.1 == (((((((((((((0:Nat)+(1:Nat))+(1:Nat))+(1:Nat))+(1:Nat))+(1:Nat))+(1:Nat))+(1:Nat))+(1:Nat))+(1:Nat))+(1:Nat)):Nat):Int)) then
 (Z50 (x.1,x.2.1)).bind fun r11 =>
 (Z4e (x.2.2.2.1,(0:Int),(IntKind.wrap .i64 (r11 - (1:Int))))).bind fun r12 =>
 bif (Bool.not r12) then
 some (3:Int)
 else
 (Z4e (x.2.2.2.2,(0:Int),(0:Int))).bind fun r13 =>
 bif (Bool.not r13) then
 some (3:Int)
 else
 some (0:Int)
 else
 bif (x.2.2.1 == ((((((((((((((0:Nat)+(1:Nat))+(1:Nat))+(1:Nat))+(1:Nat))+(1:Nat))+(1:Nat))+(1:Nat))+(1:Nat))+(1:Nat))+(1:Nat))+(1:Nat)):Nat):Int)) then
 (Z50 (x.1,x.2.1)).bind fun r11 =>
 (Z4e (x.2.2.2.1,(0:Int),(IntKind.wrap .i64 (r11 - (1:Int))))).bind fun r12 =>
 bif (Bool.not r12) then
 some (3:Int)
 else
 (Z4e (x.2.2.2.2,(0:Int),(0:Int))).bind fun r13 =>
 bif (Bool.not r13) then
 some (3:Int)
 else
 some (0:Int)
 else
 bif (x.2.2.1 == (((((((((((((((0:Nat)+(1:Nat))+(1:Nat))+(1:Nat))+(1:Nat))+(1:Nat))+(1:Nat))+(1:Nat))+(1:Nat))+(1:Nat))+(1:Nat))+(1:Nat))+(1:Nat)):Nat):Int)) then
 (Z4q (x.1,x.2.1)).bind fun r11 =>
 (Z4e (x.2.2.2.1,(0:Int),(IntKind.wrap .i64 (r11 - (1:Int))))).bind fun r12 =>
 bif (Bool.not r12) then
 some (3:Int)
 else
 (Z4e (x.2.2.2.2,(0:Int),(0:Int))).bind fun r13 =>
 bif (Bool.not r13) then
 some (3:Int)
 else
 some (0:Int)
 else
 bif (x.2.2.1 == ((((((((((((((((0:Nat)+(1:Nat))+(1:Nat))+(1:Nat))+(1:Nat))+(1:Nat))+(1:Nat))+(1:Nat))+(1:Nat))+(1:Nat))+(1:Nat))+(1:Nat))+(1:Nat))+(1:Nat)):Nat):Int)) then
 (Z4q (x.1,x.2.1)).bind fun r11 =>
 (Z4e (x.2.2.2.1,(0:Int),(IntKind.wrap .i64 (r11 - (1:Int))))).bind fun r12 =>
 bif (Bool.not r12) then
 some (3:Int)
 else
 (Z4e (x.2.2.2.2,(0:Int),(0:Int))).bind fun r13 =>
 bif (Bool.not r13) then
 some (3:Int)
 else
 some (0:Int)
 else
 none
abbrev Ztt:=Spec.shp Zkt Zpb Z4g
def Zdw:Ctx:=mC [(191,[],Zts),(195,[],Ztx),(223,[],Ztv),(224,[],Ztr),(225,[],Ztz),(226,[],Ztu),(227,[],Ztw),(228,[],Ztq),(229,[],Zu3),(230,[],Zty)] [] 37 0
theorem Z4h:Sound Tryz.prog 155 (Ztt) :=
 tS Zdw Tryz.f155 ⟨Z4f,Z4p,Z4l,Z4d,Z4t,Z4j,Z4n,Z4b,Z51,Z4r,trivial⟩
abbrev Zi4:Shape:=⟨sl_9,bl_0,ts_7,0⟩
abbrev Zh5:List (ETag × Shape):=[(.ret,⟨sl_10,[],ts_0,0⟩),(.exit 2,⟨sl_11,bl_0,ts_8,0⟩)]
def Za5 (x:T56):Option (T56 ⊕ (T4 ⊕ T54)) :=
 bif (decide (x.2.2.2.2.2.2.2.1 < x.2.2.2.2.2.2.1)) then
 bif (inb x.2.2.2.2.2.2.2.1 (List.length x.2.2.2.2.2.1)) then
 (Z4g (x.2.2.2.2.2.2.2.2,x.2.1,(getAt ((0:Int),(0:Int),(0:Int)) x.2.2.2.2.2.1 (toN x.2.2.2.2.2.2.2.1)))).bind fun r8 =>
 bif (r8 != (0:Int)) then
 some (.inr (.inl (x.1,x.2.2.2.2.2.2.2.1,r8)))
 else
 some (.inl (x.1,x.2.1,x.2.2.1,x.2.2.2.1,x.2.2.2.2.1,x.2.2.2.2.2.1,x.2.2.2.2.2.2.1,(IntKind.wrap .i64 (x.2.2.2.2.2.2.2.1+(1:Int))),x.2.2.2.2.2.2.2.2))
 else
 none
 else
 some (.inr (.inr (x.2.2.1,x.2.2.2.1,x.2.2.2.2.1,x.2.2.2.2.2.2.2.2)))
def Zdr:Ctx:=mC [(154,[],Zu0),(155,[],Ztt)] [] 51 0
theorem Za6:CSound Tryz.prog ⟨51,0,true⟩ (.loop (loopOf 11 Tryz.f92)) (pieceSpec Zi4 Zh5 (loop Za5)) :=
 tL Zdr 11 Tryz.f92 ⟨Z4z,Z4h,trivial⟩
abbrev Zi5:Shape:=⟨sl_11,bl_0,ts_8,0⟩
abbrev Zh6:List (ETag × Shape):=[(.ret,⟨sl_10,[],ts_0,0⟩),(.exit 0,⟨[],[],[],0⟩)]
def Za7 (x:T54):Option (T54 ⊕ (T4 ⊕ Unit)) :=
 bif (decide (x.2.2.1 < x.2.1)) then
 bif (inb x.2.2.1 (List.length x.1)) then
 bif (decide ((((List.length (getAt ([]:List T7) x.1 (toN x.2.2.1))):Nat):Int) > (24:Int))) then
 some (.inr (.inl (x.2.2.1,(Int.negSucc 0),(2:Int))))
 else
 (loop Za5 (x.2.2.1,(getAt ([]:List T7) x.1 (toN x.2.2.1)),x.1,x.2.1,x.2.2.1,(getAt ([]:List T7) x.1 (toN x.2.2.1)),(((List.length (getAt ([]:List T7) x.1 (toN x.2.2.1))):Nat):Int),(0:Int),x.2.2.2)).bind fun r7 =>
 match r7 with
 | .inl y8 =>
 some (.inr (.inl (y8.1,y8.2.1,y8.2.2)))
 | .inr y8 =>
 some (.inl (y8.1,y8.2.1,(IntKind.wrap .i64 (y8.2.2.1+(1:Int))),y8.2.2.2))
 else
 none
 else
 some (.inr (.inr ()))
def Zds:Ctx:=mC [(154,[],Zu0),(155,[],Ztt)] [(0,11,pieceSpec Zi4 Zh5 (loop Za5))] 51 0
theorem Za8:CSound Tryz.prog ⟨51,0,true⟩ (.loop (loopOf 6 Tryz.f92)) (pieceSpec Zi5 Zh6 (loop Za7)) :=
 tL Zds 6 Tryz.f92 ⟨Z4z,Z4h,trivial⟩ ⟨(pL 11 Tryz.f92 Za6),trivial⟩
abbrev Zkp:Shape:=⟨sl_6,[],[y39],0⟩
abbrev Zp7:Shape:=⟨sl_0,[],ts_0,0⟩
def Z48 (x:(T47)):Option T4 :=
 (Z4u x).bind fun r5 =>
 bif (r5.2 != (0:Int)) then
 some ((Int.negSucc 0),r5.1,r5.2)
 else
 (loop Za7 (x.2.2.2.2.2,(((List.length x.2.2.2.2.2):Nat):Int),(0:Int),x)).bind fun r6 =>
 match r6 with
 | .inl y7 =>
 some (y7.1,y7.2.1,y7.2.2)
 | .inr y7 =>
 some ((Int.negSucc 0),(Int.negSucc 0),(0:Int))
abbrev Ztp:=Spec.shp Zkp Zp7 Z48
def Zdq:Ctx:=mC [(154,[],Zu0),(155,[],Ztt)] [(0,11,pieceSpec Zi4 Zh5 (loop Za5)),(0,6,pieceSpec Zi5 Zh6 (loop Za7))] 51 0
theorem Z49:Sound Tryz.prog 92 (Ztp) :=
 tS Zdq Tryz.f92 ⟨Z4z,Z4h,trivial⟩ ⟨(pL 11 Tryz.f92 Za6),(pL 6 Tryz.f92 Za8),trivial⟩
abbrev Zko:Shape:=⟨sl_6,[],[y39],0⟩
abbrev Zp6:Shape:=⟨sl_1,[],ts_1,0⟩
def Z46 (x:(T47)):Option (Bool) :=
 (Z48 x).bind fun r4 =>
 some (r4.2.2 == (0:Int))
abbrev Zto:=Spec.shp Zko Zp6 Z46
def Zdp:Ctx:=mC [(92,[],Ztp)] [] 14 0
theorem Z47:Sound Tryz.prog 38 (Zto) :=
 tS Zdp Tryz.f38 ⟨Z49,trivial⟩
abbrev Zl6:Shape:=⟨sl_2,[],ts_2,0⟩
abbrev Zpo:Shape:=⟨sl_12,[],[y21,(.int .i64)],0⟩
def Z56 (x:(Int)):Option (T16 × Int) :=
 bif (decide (x < (0:Int))) then
 some (((0:Int),(0:Int),([]:List Int),(0:Int)),(2:Int))
 else
 bif (decide (x > (8:Int))) then
 some (((0:Int),(0:Int),([]:List Int),(0:Int)),(2:Int))
 else
 bif (mkOK x x) then
 some ((x,(0:Int),(List.replicate (toN x) (0:Int)),(0:Int)),(0:Int))
 else
 none
abbrev Zu5:=Spec.shp Zl6 Zpo Z56
def Zea:Ctx:=mC [] [] 15 0
theorem Z57:Sound Tryz.prog 93 (Zu5) :=
 tS Zea Tryz.f93 trivial
abbrev Zip:Shape:=⟨sl_2,[],ts_2,0⟩
abbrev Zn7:Shape:=⟨sl_13,[],[y40,(.int .i64)],0⟩
def Z4 (x:(Int)):Option T46 :=
 bif (decide (x < (Int.negSucc 0))) then
 some (((0:Int),false,((0:Int),(0:Int),([]:List Int),(0:Int)),(0:Int),(0:Int),([]:List T7),([]:List T7)),(2:Int))
 else
 bif (decide (x > (3:Int))) then
 some (((0:Int),false,((0:Int),(0:Int),([]:List Int),(0:Int)),(0:Int),(0:Int),([]:List T7),([]:List T7)),(2:Int))
 else
 (Z56 (Max.max x (0:Int))).bind fun r6 =>
 some ((x,false,r6.1,(0:Int),(0:Int),([]:List T7),([]:List T7)),r6.2)
abbrev Zrp:=Spec.shp Zip Zn7 Z4
def Zb9:Ctx:=mC [(93,[],Zu5)] [] 23 0
theorem Z5:Sound Tryz.prog 39 (Zrp) :=
 tS Zb9 Tryz.f39 ⟨Z57,trivial⟩
abbrev Zhq:Shape:=⟨[(2,(.ptr 0 [])),(5,(.ptr 1 [])),(26,(.hole y0)),(27,(.hole (.int .i64))),(28,(.hole (.int .i64)))],bl_1,[y0,(.int .i64),(.int .i64),(.int .i64),(.int .i64),(.int .i64),y4,y39,y4,y18,y41,y19,y26],0⟩
abbrev Zgr:List (ETag × Shape):=[(.exit 0,⟨[(2,(.ptr 0 [])),(5,(.ptr 1 []))],bl_1,ts_9,0⟩)]
def Z9c (x:(List Int × Int × Int × Int × Int × Int × (Int × Int) × T47 × (Int × Int) × List (T17) × List T43 × List (T18) × List T29)):Option ((List Int × Int × Int × Int × Int × Int × (Int × Int) × T47 × (Int × Int) × List (T17) × List T43 × List (T18) × List T29) ⊕ (Int × Int × Int × (Int × Int) × T47 × (Int × Int) × List (T17) × List T43 × List (T18) × List T29)) :=
 bif (decide (x.2.2.1 < x.2.1)) then
 bif (inb x.2.2.1 (List.length x.1)) then
 (Z4 (getAt (0:Int) x.1 (toN x.2.2.1))).bind fun r5 =>
 bif (fits ((List.length x.2.2.2.2.2.2.2.2.2.2.1)+(List.length (r5.1 :: ([]:List (Int × T41)))))) then
 some (.inl (x.1,x.2.1,(IntKind.wrap .i64 (x.2.2.1+(1:Int))),x.2.2.2.1,x.2.2.2.2.1,x.2.2.2.2.2.1,x.2.2.2.2.2.2.1,x.2.2.2.2.2.2.2.1,x.2.2.2.2.2.2.2.2.1,x.2.2.2.2.2.2.2.2.2.1,(x.2.2.2.2.2.2.2.2.2.2.1++(r5.1 :: ([]:List (Int × T41)))),x.2.2.2.2.2.2.2.2.2.2.2.1,x.2.2.2.2.2.2.2.2.2.2.2.2))
 else
 none
 else
 none
 else
 some (.inr (x.2.2.2.1,x.2.2.2.2.1,x.2.2.2.2.2.1,x.2.2.2.2.2.2.1,x.2.2.2.2.2.2.2.1,x.2.2.2.2.2.2.2.2.1,x.2.2.2.2.2.2.2.2.2.1,x.2.2.2.2.2.2.2.2.2.2.1,x.2.2.2.2.2.2.2.2.2.2.2.1,x.2.2.2.2.2.2.2.2.2.2.2.2))
def Zbv:Ctx:=mC [(38,[],Zto),(39,[],Zrp)] [] 61 0
theorem Z9d:CSound Tryz.prog ⟨61,0,true⟩ (.loop (loopOf 6 Tryz.f14)) (pieceSpec Zhq Zgr (loop Z9c)) :=
 tL Zbv 6 Tryz.f14 ⟨Z47,Z5,trivial⟩
abbrev Zk6:Shape:=⟨[(0,(.ptr 0 [])),(1,(.hole (.int .i64))),(2,(.hole (.int .i64))),(3,(.hole (.int .i64))),(4,(.hole (.int .i64))),(5,(.hole (.int .i64)))],bl_2,[(.int .i64),(.int .i64),(.int .i64),(.int .i64),(.int .i64),y39,y4,y18,y41,y19,y26,y27],0⟩
abbrev Zoo:Shape:=⟨sl_2,bl_2,ts_10,1⟩
def Z35 (x:(Int × Int × Int × Int × Int × T47 × (Int × Int) × List (T17) × List T43 × List (T18) × List T29 × List (T20))):Option T58 :=
 bif (fits ((List.length x.2.2.2.2.2.2.2.2.2.2.2)+(List.length ((x.1,x.2.1,x.2.2.1,x.2.2.2.1,x.2.2.2.2.1) :: ([]:List T20))))) then
 some ((IntKind.wrap .i64 ((IntKind.wrap .i64 (x.2.2.2.2.2.2.1.1+(1:Int))) - (1:Int))),x.2.2.2.2.2.1,((IntKind.wrap .i64 (x.2.2.2.2.2.2.1.1+(1:Int))),x.2.2.2.2.2.2.1.2),x.2.2.2.2.2.2.2.1,x.2.2.2.2.2.2.2.2.1,x.2.2.2.2.2.2.2.2.2.1,x.2.2.2.2.2.2.2.2.2.2.1,(x.2.2.2.2.2.2.2.2.2.2.2++((x.1,x.2.1,x.2.2.1,x.2.2.2.1,x.2.2.2.2.1) :: ([]:List T20))))
 else
 none
abbrev Zt6:=Spec.shp Zk6 Zoo Z35
def Zd1:Ctx:=mC [] [] 43 1
theorem Z36:Sound Tryz.prog 40 (Zt6) :=
 tS Zd1 Tryz.f40 trivial
abbrev Zjo:Shape:=⟨sl_14,bl_2,[(.int .i64),(.int .i64),y39,y4,y18,y41,y19,y26,y27],0⟩
abbrev Zo6:Shape:=⟨[],bl_2,ts_11,1⟩
def Z24 (x:(Int × Int × T47 × (Int × Int) × List (T17) × List T43 × List (T18) × List T29 × List (T20))):Option T57 :=
 bif (inb x.1 (List.length x.2.2.2.2.1)) then
 bif (inb (getAt ((0:Int),(0:Int),(0:Int),false) (List.set (List.set x.2.2.2.2.1 (toN x.1) ((getAt ((0:Int),(0:Int),(0:Int),false) x.2.2.2.2.1 (toN x.1)).1,x.2.1,(getAt ((0:Int),(0:Int),(0:Int),false) x.2.2.2.2.1 (toN x.1)).2.2)) (toN x.1) ((getAt ((0:Int),(0:Int),(0:Int),false) (List.set x.2.2.2.2.1 (toN x.1) ((getAt ((0:Int),(0:Int),(0:Int),false) x.2.2.2.2.1 (toN x.1)).1,x.2.1,(getAt ((0:Int),(0:Int),(0:Int),false) x.2.2.2.2.1 (toN x.1)).2.2)) (toN x.1)).1,(getAt ((0:Int),(0:Int),(0:Int),false) (List.set x.2.2.2.2.1 (toN x.1) ((getAt ((0:Int),(0:Int),(0:Int),false) x.2.2.2.2.1 (toN x.1)).1,x.2.1,(getAt ((0:Int),(0:Int),(0:Int),false) x.2.2.2.2.1 (toN x.1)).2.2)) (toN x.1)).2.1,(0:Int),(getAt ((0:Int),(0:Int),(0:Int),false) (List.set x.2.2.2.2.1 (toN x.1) ((getAt ((0:Int),(0:Int),(0:Int),false) x.2.2.2.2.1 (toN x.1)).1,x.2.1,(getAt ((0:Int),(0:Int),(0:Int),false) x.2.2.2.2.1 (toN x.1)).2.2)) (toN x.1)).2.2.2)) (toN x.1)).1 (List.length x.2.2.1.2.2.2.2.2)) then
 bif (x.2.1 == (((List.length (getAt ([]:List T7) x.2.2.1.2.2.2.2.2 (toN (getAt ((0:Int),(0:Int),(0:Int),false) (List.set (List.set x.2.2.2.2.1 (toN x.1) ((getAt ((0:Int),(0:Int),(0:Int),false) x.2.2.2.2.1 (toN x.1)).1,x.2.1,(getAt ((0:Int),(0:Int),(0:Int),false) x.2.2.2.2.1 (toN x.1)).2.2)) (toN x.1) ((getAt ((0:Int),(0:Int),(0:Int),false) (List.set x.2.2.2.2.1 (toN x.1) ((getAt ((0:Int),(0:Int),(0:Int),false) x.2.2.2.2.1 (toN x.1)).1,x.2.1,(getAt ((0:Int),(0:Int),(0:Int),false) x.2.2.2.2.1 (toN x.1)).2.2)) (toN x.1)).1,(getAt ((0:Int),(0:Int),(0:Int),false) (List.set x.2.2.2.2.1 (toN x.1) ((getAt ((0:Int),(0:Int),(0:Int),false) x.2.2.2.2.1 (toN x.1)).1,x.2.1,(getAt ((0:Int),(0:Int),(0:Int),false) x.2.2.2.2.1 (toN x.1)).2.2)) (toN x.1)).2.1,(0:Int),(getAt ((0:Int),(0:Int),(0:Int),false) (List.set x.2.2.2.2.1 (toN x.1) ((getAt ((0:Int),(0:Int),(0:Int),false) x.2.2.2.2.1 (toN x.1)).1,x.2.1,(getAt ((0:Int),(0:Int),(0:Int),false) x.2.2.2.2.1 (toN x.1)).2.2)) (toN x.1)).2.2.2)) (toN x.1)).1))):Nat):Int)) then
 some (x.2.2.1,x.2.2.2.1,(List.set (List.set (List.set x.2.2.2.2.1 (toN x.1) ((getAt ((0:Int),(0:Int),(0:Int),false) x.2.2.2.2.1 (toN x.1)).1,x.2.1,(getAt ((0:Int),(0:Int),(0:Int),false) x.2.2.2.2.1 (toN x.1)).2.2)) (toN x.1) ((getAt ((0:Int),(0:Int),(0:Int),false) (List.set x.2.2.2.2.1 (toN x.1) ((getAt ((0:Int),(0:Int),(0:Int),false) x.2.2.2.2.1 (toN x.1)).1,x.2.1,(getAt ((0:Int),(0:Int),(0:Int),false) x.2.2.2.2.1 (toN x.1)).2.2)) (toN x.1)).1,(getAt ((0:Int),(0:Int),(0:Int),false) (List.set x.2.2.2.2.1 (toN x.1) ((getAt ((0:Int),(0:Int),(0:Int),false) x.2.2.2.2.1 (toN x.1)).1,x.2.1,(getAt ((0:Int),(0:Int),(0:Int),false) x.2.2.2.2.1 (toN x.1)).2.2)) (toN x.1)).2.1,(0:Int),(getAt ((0:Int),(0:Int),(0:Int),false) (List.set x.2.2.2.2.1 (toN x.1) ((getAt ((0:Int),(0:Int),(0:Int),false) x.2.2.2.2.1 (toN x.1)).1,x.2.1,(getAt ((0:Int),(0:Int),(0:Int),false) x.2.2.2.2.1 (toN x.1)).2.2)) (toN x.1)).2.2.2)) (toN x.1) ((getAt ((0:Int),(0:Int),(0:Int),false) (List.set (List.set x.2.2.2.2.1 (toN x.1) ((getAt ((0:Int),(0:Int),(0:Int),false) x.2.2.2.2.1 (toN x.1)).1,x.2.1,(getAt ((0:Int),(0:Int),(0:Int),false) x.2.2.2.2.1 (toN x.1)).2.2)) (toN x.1) ((getAt ((0:Int),(0:Int),(0:Int),false) (List.set x.2.2.2.2.1 (toN x.1) ((getAt ((0:Int),(0:Int),(0:Int),false) x.2.2.2.2.1 (toN x.1)).1,x.2.1,(getAt ((0:Int),(0:Int),(0:Int),false) x.2.2.2.2.1 (toN x.1)).2.2)) (toN x.1)).1,(getAt ((0:Int),(0:Int),(0:Int),false) (List.set x.2.2.2.2.1 (toN x.1) ((getAt ((0:Int),(0:Int),(0:Int),false) x.2.2.2.2.1 (toN x.1)).1,x.2.1,(getAt ((0:Int),(0:Int),(0:Int),false) x.2.2.2.2.1 (toN x.1)).2.2)) (toN x.1)).2.1,(0:Int),(getAt ((0:Int),(0:Int),(0:Int),false) (List.set x.2.2.2.2.1 (toN x.1) ((getAt ((0:Int),(0:Int),(0:Int),false) x.2.2.2.2.1 (toN x.1)).1,x.2.1,(getAt ((0:Int),(0:Int),(0:Int),false) x.2.2.2.2.1 (toN x.1)).2.2)) (toN x.1)).2.2.2)) (toN x.1)).1,(getAt ((0:Int),(0:Int),(0:Int),false) (List.set (List.set x.2.2.2.2.1 (toN x.1) ((getAt ((0:Int),(0:Int),(0:Int),false) x.2.2.2.2.1 (toN x.1)).1,x.2.1,(getAt ((0:Int),(0:Int),(0:Int),false) x.2.2.2.2.1 (toN x.1)).2.2)) (toN x.1) ((getAt ((0:Int),(0:Int),(0:Int),false) (List.set x.2.2.2.2.1 (toN x.1) ((getAt ((0:Int),(0:Int),(0:Int),false) x.2.2.2.2.1 (toN x.1)).1,x.2.1,(getAt ((0:Int),(0:Int),(0:Int),false) x.2.2.2.2.1 (toN x.1)).2.2)) (toN x.1)).1,(getAt ((0:Int),(0:Int),(0:Int),false) (List.set x.2.2.2.2.1 (toN x.1) ((getAt ((0:Int),(0:Int),(0:Int),false) x.2.2.2.2.1 (toN x.1)).1,x.2.1,(getAt ((0:Int),(0:Int),(0:Int),false) x.2.2.2.2.1 (toN x.1)).2.2)) (toN x.1)).2.1,(0:Int),(getAt ((0:Int),(0:Int),(0:Int),false) (List.set x.2.2.2.2.1 (toN x.1) ((getAt ((0:Int),(0:Int),(0:Int),false) x.2.2.2.2.1 (toN x.1)).1,x.2.1,(getAt ((0:Int),(0:Int),(0:Int),false) x.2.2.2.2.1 (toN x.1)).2.2)) (toN x.1)).2.2.2)) (toN x.1)).2.1,(2:Int),(getAt ((0:Int),(0:Int),(0:Int),false) (List.set (List.set x.2.2.2.2.1 (toN x.1) ((getAt ((0:Int),(0:Int),(0:Int),false) x.2.2.2.2.1 (toN x.1)).1,x.2.1,(getAt ((0:Int),(0:Int),(0:Int),false) x.2.2.2.2.1 (toN x.1)).2.2)) (toN x.1) ((getAt ((0:Int),(0:Int),(0:Int),false) (List.set x.2.2.2.2.1 (toN x.1) ((getAt ((0:Int),(0:Int),(0:Int),false) x.2.2.2.2.1 (toN x.1)).1,x.2.1,(getAt ((0:Int),(0:Int),(0:Int),false) x.2.2.2.2.1 (toN x.1)).2.2)) (toN x.1)).1,(getAt ((0:Int),(0:Int),(0:Int),false) (List.set x.2.2.2.2.1 (toN x.1) ((getAt ((0:Int),(0:Int),(0:Int),false) x.2.2.2.2.1 (toN x.1)).1,x.2.1,(getAt ((0:Int),(0:Int),(0:Int),false) x.2.2.2.2.1 (toN x.1)).2.2)) (toN x.1)).2.1,(0:Int),(getAt ((0:Int),(0:Int),(0:Int),false) (List.set x.2.2.2.2.1 (toN x.1) ((getAt ((0:Int),(0:Int),(0:Int),false) x.2.2.2.2.1 (toN x.1)).1,x.2.1,(getAt ((0:Int),(0:Int),(0:Int),false) x.2.2.2.2.1 (toN x.1)).2.2)) (toN x.1)).2.2.2)) (toN x.1)).2.2.2)),x.2.2.2.2.2.1,x.2.2.2.2.2.2.1,x.2.2.2.2.2.2.2.1,x.2.2.2.2.2.2.2.2)
 else
 some (x.2.2.1,x.2.2.2.1,(List.set (List.set x.2.2.2.2.1 (toN x.1) ((getAt ((0:Int),(0:Int),(0:Int),false) x.2.2.2.2.1 (toN x.1)).1,x.2.1,(getAt ((0:Int),(0:Int),(0:Int),false) x.2.2.2.2.1 (toN x.1)).2.2)) (toN x.1) ((getAt ((0:Int),(0:Int),(0:Int),false) (List.set x.2.2.2.2.1 (toN x.1) ((getAt ((0:Int),(0:Int),(0:Int),false) x.2.2.2.2.1 (toN x.1)).1,x.2.1,(getAt ((0:Int),(0:Int),(0:Int),false) x.2.2.2.2.1 (toN x.1)).2.2)) (toN x.1)).1,(getAt ((0:Int),(0:Int),(0:Int),false) (List.set x.2.2.2.2.1 (toN x.1) ((getAt ((0:Int),(0:Int),(0:Int),false) x.2.2.2.2.1 (toN x.1)).1,x.2.1,(getAt ((0:Int),(0:Int),(0:Int),false) x.2.2.2.2.1 (toN x.1)).2.2)) (toN x.1)).2.1,(0:Int),(getAt ((0:Int),(0:Int),(0:Int),false) (List.set x.2.2.2.2.1 (toN x.1) ((getAt ((0:Int),(0:Int),(0:Int),false) x.2.2.2.2.1 (toN x.1)).1,x.2.1,(getAt ((0:Int),(0:Int),(0:Int),false) x.2.2.2.2.1 (toN x.1)).2.2)) (toN x.1)).2.2.2)),x.2.2.2.2.2.1,x.2.2.2.2.2.2.1,x.2.2.2.2.2.2.2.1,x.2.2.2.2.2.2.2.2)
 else
 none
 else
 none
abbrev Zso:=Spec.shp Zjo Zo6 Z24
def Zch:Ctx:=mC [] [] 39 1
theorem Z25:Sound Tryz.prog 41 (Zso) :=
 tS Zch Tryz.f41 trivial
abbrev Zk3:Shape:=⟨[(0,(.hole y12)),(1,(.ptr 0 []))],bl_3,[y12,(.int .i64)],0⟩
abbrev Zol:Shape:=⟨sl_1,bl_3,[.bool,(.int .i64)],1⟩
def Z2w (x:(T17 × Int)):Option T0 :=
 some ((x.1.2.2.1 == x.2),x.2)
abbrev Zt3:=Spec.shp Zk3 Zol Z2w
def Zcx:Ctx:=mC [] [] 8 1
theorem Z2x:Sound Tryz.prog 96 (Zt3) :=
 tS Zcx Tryz.f96 trivial
theorem Z2y:Sound Tryz.prog 96 (Spec.shpR Zk3 Zol Z2w) :=
 Sound.shpR (fun x y h=>by have h:=Option.some.inj h; subst h; rfl) Z2x
abbrev Zic:Shape:=⟨[(0,(.sl 0)),(1,(.fn 96 .nil (.cons (.ptr 1 []) .nil))),(7,(.hole (.int .i64))),(8,(.hole (.int .i64)))],bl_4,[(.int .i64),(.int .i64),y18,(.int .i64)],2⟩
abbrev Zhd:List (ETag × Shape):=[(.ret,⟨sl_3,bl_4,[(.int .i64),y18,(.int .i64)],2⟩),(.exit 0,⟨[],bl_4,[y18,(.int .i64)],2⟩)]
def Zal (x:(Int × Int × List (T17) × Int)):Option ((Int × Int × List (T17) × Int) ⊕ ((Int × List (T17) × Int) ⊕ (List (T17) × Int))) :=
 bif (decide (x.2.1 < x.1)) then
 bif (inb x.2.1 (List.length x.2.2.1)) then
 (Z2w ((getAt ((0:Int),(0:Int),(0:Int),false) x.2.2.1 (toN x.2.1)),x.2.2.2)).bind fun r12 =>
 bif r12.1 then
 some (.inr (.inl (x.2.1,x.2.2.1,x.2.2.2)))
 else
 some (.inl (x.1,(IntKind.wrap .i64 (x.2.1+(1:Int))),x.2.2.1,x.2.2.2))
 else
 none
 else
 some (.inr (.inr (x.2.2.1,x.2.2.2)))
def Zfb:Ctx:=mC [(96,[],Spec.shpR Zk3 Zol Z2w)] [] 19 2
theorem Zam:CSound Tryz.prog ⟨19,2,true⟩ (.loop (loopOf 3 Tryz.f156)) (pieceSpec Zic Zhd (loop Zal)) :=
 tL Zfb 3 Tryz.f156 ⟨Z2y,trivial⟩
abbrev Zm1:Shape:=⟨[(0,(.sl 0)),(1,(.fn 96 .nil (.cons (.ptr 1 []) .nil)))],bl_4,[y18,(.int .i64)],0⟩
abbrev Zqj:Shape:=⟨sl_2,bl_4,[(.int .i64),y18,(.int .i64)],2⟩
def Z6w (x:(List (T17) × Int)):Option (Int × List (T17) × Int) :=
 (loop Zal ((((List.length x.1):Nat):Int),(0:Int),x.1,x.2)).bind fun r11 =>
 match r11 with
 | .inl y12 =>
 some (y12.1,y12.2.1,y12.2.2)
 | .inr y12 =>
 some ((Int.negSucc 0),y12.1,y12.2)
abbrev Zv0:=Spec.shp Zm1 Zqj Z6w
def Zfa:Ctx:=mC [(96,[],Spec.shpR Zk3 Zol Z2w)] [(0,3,pieceSpec Zic Zhd (loop Zal))] 19 2
theorem Z6x:Sound Tryz.prog 156 (Zv0) :=
 tS Zfa Tryz.f156 ⟨Z2y,trivial⟩ ⟨(pL 3 Tryz.f156 Zam),trivial⟩
abbrev Zlr:Shape:=⟨[(0,(.sl 0)),(1,(.fn 96 .nil (.cons (.ptr 1 []) .nil)))],bl_4,[y18,(.int .i64)],0⟩
abbrev Zq9:Shape:=⟨sl_1,bl_4,[.bool,y18,(.int .i64)],2⟩
def Z6c (x:(List (T17) × Int)):Option (Bool × List (T17) × Int) :=
 (Z6w (x.1,x.2)).bind fun r10 =>
 some ((decide (r10.1 ≥ (0:Int))),r10.2.1,r10.2.2)
abbrev Zuq:=Spec.shp Zlr Zq9 Z6c
def Zex:Ctx:=mC [(156,[2000000,96],Zv0)] [] 9 2
theorem Z6d:Sound Tryz.prog 95 (Zuq) :=
 tS Zex Tryz.f95 ⟨Z6x,trivial⟩
abbrev Zk2:Shape:=⟨[(0,(.hole (.int .i64))),(1,(.ptr 0 []))],bl_5,ts_10,0⟩
abbrev Zok:Shape:=⟨sl_1,bl_5,[.bool,y39,y4,y18,y41,y19,y26,y27],2⟩
def Z2v (x:T58):Option (Bool × T47 × (Int × Int) × List (T17) × List T43 × List (T18) × List T29 × List (T20)) :=
 (Z6c (x.2.2.2.1,x.1)).bind fun r9 =>
 some (r9.1,x.2.1,x.2.2.1,r9.2.1,x.2.2.2.2.1,x.2.2.2.2.2.1,x.2.2.2.2.2.2.1,x.2.2.2.2.2.2.2)
abbrev Zt2:=Spec.shp Zk2 Zok Z2v
def Zcw:Ctx:=mC [(95,[2000000,96],Zuq)] [] 11 2
theorem Z2z:Sound Tryz.prog 94 (Zt2) :=
 tS Zcw Tryz.f94 ⟨Z6d,trivial⟩
abbrev Zk1:Shape:=⟨sl_15,bl_2,ts_11,0⟩
abbrev Zoj:Shape:=⟨[],bl_2,ts_11,1⟩
def Z2u (x:T57):Option T57 :=
 bif (x.2.1.2 != (0:Int)) then
 some (x.1,x.2.1,x.2.2.1,x.2.2.2.1,x.2.2.2.2.1,x.2.2.2.2.2.1,x.2.2.2.2.2.2)
 else
 (Z2v ((0:Int),x.1,x.2.1,x.2.2.1,x.2.2.2.1,x.2.2.2.2.1,x.2.2.2.2.2.1,x.2.2.2.2.2.2)).bind fun r8 =>
 bif r8.1 then
 some (r8.2.1,r8.2.2.1,r8.2.2.2.1,r8.2.2.2.2.1,r8.2.2.2.2.2.1,r8.2.2.2.2.2.2.1,r8.2.2.2.2.2.2.2)
 else
 (Z2v ((1:Int),r8.2.1,r8.2.2.1,r8.2.2.2.1,r8.2.2.2.2.1,r8.2.2.2.2.2.1,r8.2.2.2.2.2.2.1,r8.2.2.2.2.2.2.2)).bind fun r9 =>
 bif r9.1 then
 some (r9.2.1,(r9.2.2.1.1,(2:Int)),r9.2.2.2.1,r9.2.2.2.2.1,r9.2.2.2.2.2.1,r9.2.2.2.2.2.2.1,r9.2.2.2.2.2.2.2)
 else
 some (r9.2.1,(r9.2.2.1.1,(1:Int)),r9.2.2.2.1,r9.2.2.2.2.1,r9.2.2.2.2.2.1,r9.2.2.2.2.2.2.1,r9.2.2.2.2.2.2.2)
abbrev Zt1:=Spec.shp Zk1 Zoj Z2u
def Zcv:Ctx:=mC [(94,[],Spec.thin (Zt2))] [] 26 1
theorem Z30:Sound Tryz.prog 42 (Zt1) :=
 tS Zcv Tryz.f42 ⟨Z2z.thin,trivial⟩
abbrev Zj8:Shape:=⟨sl_6,[],[y39],0⟩
abbrev Znq:Shape:=⟨[(0,(.hole y45)),(1,(.hole y27)),(2,(.hole (.int .i64)))],[],[y45,y27,(.int .i64)],0⟩
def Z18 (x:(T47)):Option ((T47 × T61) × List (T20) × Int) :=
 (Z46 x).bind fun r3 =>
 bif (Bool.not r3) then
 some (((([]:List Int),(0:Int),(0:Int),(0:Int),([]:List T21),([]:List (List T7))),([]:List T17),([]:List (Int × T41)),([]:List T22),([]:List (Int × T14)),(0:Int),(0:Int)),([]:List T20),(1:Int))
 else
 bif (mkOK x.2.1 x.2.1) then
 bif (mkOK x.2.2.1 x.2.2.1) then
 (loop Z9c (x.1,(((List.length x.1):Nat):Int),(0:Int),(0:Int),(0:Int),(0:Int),((0:Int),(0:Int)),x,((0:Int),(0:Int)),(((0:Int),(0:Int),(0:Int),false) :: ([]:List T17)),([]:List (Int × T41)),(List.replicate (toN x.2.1) (false,([]:List T7))),(List.replicate (toN x.2.2.1) ((0:Int),(0:Int),([]:List T7))))).bind fun r4 =>
 (Z35 ((0:Int),(0:Int),(0:Int),(0:Int),(Int.negSucc 0),r4.2.2.2.2.1,r4.2.2.2.2.2.1,r4.2.2.2.2.2.2.1,r4.2.2.2.2.2.2.2.1,r4.2.2.2.2.2.2.2.2.1,r4.2.2.2.2.2.2.2.2.2,([]:List T20))).bind fun r5 =>
 (Z24 ((0:Int),(0:Int),r5.2.1,r5.2.2.1,r5.2.2.2.1,r5.2.2.2.2.1,r5.2.2.2.2.2.1,r5.2.2.2.2.2.2.1,r5.2.2.2.2.2.2.2)).bind fun r6 =>
 (Z2u (r6.1,r6.2.1,r6.2.2.1,r6.2.2.2.1,r6.2.2.2.2.1,r6.2.2.2.2.2.1,r6.2.2.2.2.2.2)).bind fun r7 =>
 some ((r7.1,r7.2.2.1,r7.2.2.2.1,r7.2.2.2.2.1,r7.2.2.2.2.2.1,r7.2.1),r7.2.2.2.2.2.2,(0:Int))
 else
 none
 else
 none
abbrev Zs8:=Spec.shp Zj8 Znq Z18
def Zbu:Ctx:=mC [(38,[],Zto),(39,[],Zrp),(40,[],Zt6),(41,[],Zso),(42,[],Zt1)] [(0,6,pieceSpec Zhq Zgr (loop Z9c))] 61 0
theorem Z19:Sound Tryz.prog 14 (Zs8) :=
 tS Zbu Tryz.f14 ⟨Z47,Z5,Z36,Z25,Z30,trivial⟩ ⟨(pL 6 Tryz.f14 Z9d),trivial⟩
abbrev Zjb:Shape:=⟨[(0,(.hole y39)),(1,(.hole y12))],[],[y39,y12],0⟩
abbrev Znt:Shape:=⟨sl_1,[],ts_1,0⟩
def Z1e (x:(T47 × T17)):Option (Bool) :=
 bif (decide (x.2.1 < (0:Int))) then
 some false
 else
 bif (decide (x.2.1 ≥ (((List.length x.1.2.2.2.2.2):Nat):Int))) then
 some false
 else
 bif (decide (x.2.2.1 < (0:Int))) then
 some false
 else
 bif (inb x.2.1 (List.length x.1.2.2.2.2.2)) then
 bif (decide (x.2.2.1 > (((List.length (getAt ([]:List T7) x.1.2.2.2.2.2 (toN x.2.1))):Nat):Int))) then
 some false
 else
 bif (decide (x.2.2.2.1 ≥ (0:Int))) then
 bif (decide (x.2.2.2.1 ≤ (2:Int))) then
 bif (inb x.2.1 (List.length x.1.2.2.2.2.2)) then
 some ((x.2.2.1 == (((List.length (getAt ([]:List T7) x.1.2.2.2.2.2 (toN x.2.1))):Nat):Int)) == (x.2.2.2.1 == (2:Int)))
 else
 none
 else
 some false
 else
 some false
 else
 none
abbrev Zsb:=Spec.shp Zjb Znt Z1e
def Zby:Ctx:=mC [] [] 57 0
theorem Z1f:Sound Tryz.prog 108 (Zsb) :=
 tS Zby Tryz.f108 trivial
abbrev Zje:Shape:=⟨[(0,(.hole y12)),(1,(.ptr 0 []))],bl_0,[y12,y39],0⟩
abbrev Znw:Shape:=⟨sl_1,bl_0,[.bool,y39],1⟩
def Z1j (x:(T17 × T47)):Option (Bool × T47) :=
 (Z1e (x.2,x.1)).bind fun r11 =>
 some ((Bool.not r11),x.2)
abbrev Zse:=Spec.shp Zje Znw Z1j
def Zc2:Ctx:=mC [(108,[],Zsb)] [] 8 1
theorem Z1k:Sound Tryz.prog 107 (Zse) :=
 tS Zc2 Tryz.f107 ⟨Z1f,trivial⟩
abbrev Zib:Shape:=⟨[(0,(.hole y18)),(1,(.fn 107 .nil (.cons (.ptr 0 []) .nil))),(7,(.hole (.int .i64))),(8,(.hole (.int .i64)))],bl_0,[y18,(.int .i64),(.int .i64),y39],1⟩
abbrev Zhc:List (ETag × Shape):=[(.ret,⟨sl_3,bl_0,[(.int .i64),y39],1⟩),(.exit 0,⟨[],bl_0,[y39],1⟩)]
def Zaj (x:(List (T17) × Int × Int × T47)):Option ((List (T17) × Int × Int × T47) ⊕ ((Int × T47) ⊕ (T47))) :=
 bif (decide (x.2.2.1 < x.2.1)) then
 bif (inb x.2.2.1 (List.length x.1)) then
 (Z1j ((getAt ((0:Int),(0:Int),(0:Int),false) x.1 (toN x.2.2.1)),x.2.2.2)).bind fun r10 =>
 bif r10.1 then
 some (.inr (.inl (x.2.2.1,r10.2)))
 else
 some (.inl (x.1,x.2.1,(IntKind.wrap .i64 (x.2.2.1+(1:Int))),r10.2))
 else
 none
 else
 some (.inr (.inr x.2.2.2))
def Zf9:Ctx:=mC [(107,[],Zse)] [] 19 1
theorem Zak:CSound Tryz.prog ⟨19,1,true⟩ (.loop (loopOf 3 Tryz.f156)) (pieceSpec Zib Zhc (loop Zaj)) :=
 tL Zf9 3 Tryz.f156 ⟨Z1k,trivial⟩
abbrev Zm0:Shape:=⟨[(0,(.hole y18)),(1,(.fn 107 .nil (.cons (.ptr 0 []) .nil)))],bl_0,[y18,y39],0⟩
abbrev Zqi:Shape:=⟨sl_2,bl_0,[(.int .i64),y39],1⟩
def Z6u (x:(List (T17) × T47)):Option (Int × T47) :=
 (loop Zaj (x.1,(((List.length x.1):Nat):Int),(0:Int),x.2)).bind fun r9 =>
 match r9 with
 | .inl y10 =>
 some (y10.1,y10.2)
 | .inr y10 =>
 some ((Int.negSucc 0),y10)
abbrev Zuz:=Spec.shp Zm0 Zqi Z6u
def Zf8:Ctx:=mC [(107,[],Zse)] [(0,3,pieceSpec Zib Zhc (loop Zaj))] 19 1
theorem Z6v:Sound Tryz.prog 156 (Zuz) :=
 tS Zf8 Tryz.f156 ⟨Z1k,trivial⟩ ⟨(pL 3 Tryz.f156 Zak),trivial⟩
abbrev Zlq:Shape:=⟨[(0,(.hole y18)),(1,(.fn 107 .nil (.cons (.ptr 0 []) .nil)))],bl_0,[y18,y39],0⟩
abbrev Zq8:Shape:=⟨sl_1,bl_0,[.bool,y39],1⟩
def Z6a (x:(List (T17) × T47)):Option (Bool × T47) :=
 (Z6u (x.1,x.2)).bind fun r8 =>
 some ((decide (r8.1 ≥ (0:Int))),r8.2)
abbrev Zup:=Spec.shp Zlq Zq8 Z6a
def Zew:Ctx:=mC [(156,[107],Zuz)] [] 9 1
theorem Z6b:Sound Tryz.prog 95 (Zup) :=
 tS Zew Tryz.f95 ⟨Z6v,trivial⟩
abbrev Zl9:Shape:=⟨[(0,(.hole y21))],[],[y21],0⟩
abbrev Zpr:Shape:=⟨sl_1,[],ts_1,0⟩
def Z5c (x:(T16)):Option (Bool) :=
 bif (decide (x.1 ≥ (0:Int))) then
 bif (decide (x.1 ≤ (8:Int))) then
 bif ((((List.length x.2.2.1):Nat):Int) == x.1) then
 bif (decide (x.2.2.2 ≥ (0:Int))) then
 bif (decide (x.2.2.2 ≤ x.1)) then
 bif (decide (x.2.1 ≥ (0:Int))) then
 some (decide (x.2.1 < (Max.max (1:Int) x.1)))
 else
 some false
 else
 some false
 else
 some false
 else
 some false
 else
 some false
 else
 some false
abbrev Zu8:=Spec.shp Zl9 Zpr Z5c
def Zed:Ctx:=mC [] [] 46 0
theorem Z5d:Sound Tryz.prog 196 (Zu8) :=
 tS Zed Tryz.f196 trivial
abbrev Zla:Shape:=⟨[(0,(.hole (.one y21)))],[],[(.one y21)],0⟩
abbrev Zps:Shape:=⟨[(0,(.fn 231 .nil (.cons (.ptr 0 []) .nil)))],[.var (.hole (.one y21))],[(.one y21)],0⟩
def Z5e (x:(T16)):Option (T16) :=
 some x
abbrev Zu9:=Spec.shp Zla Zps Z5e
def Zee:Ctx:=mC [] [] 4 0
theorem Z5h:Sound Tryz.prog 197 (Zu9) :=
 tS Zee Tryz.f197 trivial
abbrev Zl5:Shape:=⟨[(4,(.ptr 0 [])),(12,(.hole (.int .i64)))],[.var (.sl 1),.row (.int .i64)],[(.int .i64),y0],0⟩
abbrev Zpn:Shape:=⟨sl_2,[.var (.sl 1),.row (.int .i64)],[(.int .i64),y0],1⟩
def Z54 (x:T3):Option T3 :=
 bif (fits ((List.length x.2)+(List.length (x.1 :: ([]:List Int))))) then
 some ((0:Int),(x.2++(x.1 :: ([]:List Int))))
 else
 none
def Ze9:Ctx:=mC [] [] 18 1 false
theorem Z55:YSound Tryz.prog 10485766 [4] (Spec.rnd [4,12] Zl5 Zpn Z54) :=
 YSound.rnd (C:=Ze9) (rt:=⟨rfPs (rfOf 6 Tryz.f160),rfAs (rfOf 6 Tryz.f160),rfBody (rfOf 6 Tryz.f160),18⟩) (by kernel_rfl) (ctxOK mixed tbl_ok rfl trivial) (SumOK.of trivial) (SumOK.of trivial) rfl rfl [4] Zl5 Zpn rfl (by decide) (by decide) rfl (fun y=>⟨_,rfl⟩) (of_decide_eq_true (by kernel_rfl)) (of_decide_eq_true (by kernel_rfl)) Z54 (fun x=>by kernel_rfl)
abbrev Zlc:Shape:=⟨[(0,(.hole (.one y21))),(1,(.hole (.int .i64)))],[],[(.one y21),(.int .i64)],0⟩
abbrev Zpu:Shape:=⟨sl_2,[],ts_2,0⟩
def Z5i (x:(T16 × Int)):Option (Int) :=
 bif (x.1.1 != (0:Int)) then
 some (Int.tmod (IntKind.wrap .i64 (x.1.2.1+x.2)) x.1.1)
 else
 none
abbrev Zub:=Spec.shp Zlc Zpu Z5i
def Zeh:Ctx:=mC [] [] 14 0
theorem Z5l:Sound Tryz.prog 232 (Zub) :=
 tS Zeh Tryz.f232 trivial
abbrev Zi7:Shape:=⟨[(0,(.yl 0)),(1,(.ptr 1 [])),(6,(.hole (.int .i64))),(7,(.hole (.int .i64)))],bl_6,[(.int .i64),(.int .i64),(.one y21),y0],3⟩
abbrev Zh8:List (ETag × Shape):=[(.ret,⟨[],bl_7,[(.int .i64),(.one y21),y0],3⟩),(.exit 0,⟨[],bl_6,[(.one y21),y0],3⟩)]
def Zab (x:(Int × Int × T16 × List Int)):Option ((Int × Int × T16 × List Int) ⊕ (T33 ⊕ (T16 × List Int))) :=
 bif (decide (x.2.1 < x.1)) then
 (Z5i (x.2.2.1,x.2.1)).bind fun r15 =>
 bif (inb r15 (List.length x.2.2.1.2.2.1)) then
 (Z54 ((getAt (0:Int) x.2.2.1.2.2.1 (toN r15)),x.2.2.2)).bind fun r16 =>
 bif (eqI r16.1 (0:Int)) then
 some (.inl (x.1,(IntKind.wrap .i64 (x.2.1+(1:Int))),x.2.2.1,r16.2))
 else
 some (.inr (.inl (r16.1,x.2.2.1,r16.2)))
 else
 none
 else
 some (.inr (.inr (x.2.2.1,x.2.2.2)))
def Zeg:Ctx:=mC [(232,[],Zub)] [] 22 3 true [(10485766,[4],Spec.rnd [4,12] { sl:=[(4,(.ptr 0 [])),(12,(.hole (.int .i64)))],bl:=[.var (.sl 1),.row (.int .i64)],ts:=[(.int .i64),(.slice (.int .i64))],pin:=0 } { sl:=[(0,(.hole (.int .i64)))],bl:=[.var (.sl 1),.row (.int .i64)],ts:=[(.int .i64),(.slice (.int .i64))],pin:=1 } Z54)]
theorem Zac:CSound Tryz.prog ⟨22,3,true⟩ (.loop (loopOf 2 Tryz.f231)) (pieceSpec Zi7 Zh8 (loop Zab)) :=
 tL Zeg 2 Tryz.f231 ⟨Z5l,trivial⟩ trivial ⟨Z55,trivial⟩
abbrev Zlb:Shape:=⟨[(0,(.yl 0)),(1,(.ptr 1 []))],bl_6,[(.one y21),y0],0⟩
abbrev Zpt:Shape:=⟨[],bl_7,[(.int .i64),(.one y21),y0],3⟩
def Z5f (x:(T16 × List Int)):Option T33 :=
 (loop Zab (x.1.2.2.2,(0:Int),x.1,x.2)).bind fun r14 =>
 match r14 with
 | .inl y15 =>
 some (y15.1,y15.2.1,y15.2.2)
 | .inr y15 =>
 some ((0:Int),y15.1,y15.2)
abbrev Zua:=Spec.shp Zlb Zpt Z5f
def Zef:Ctx:=mC [(232,[],Zub)] [(0,2,pieceSpec Zi7 Zh8 (loop Zab))] 22 3 true [(10485766,[4],Spec.rnd [4,12] Zl5 Zpn Z54)]
theorem Z5g:Sound Tryz.prog 231 (Zua) :=
 tS Zef Tryz.f231 ⟨Z5l,trivial⟩ ⟨(pL 2 Tryz.f231 Zac),trivial⟩ ⟨Z55,trivial⟩
abbrev Zl4:Shape:=⟨[(0,(.hole y21))],[],[y21],0⟩
abbrev Zpm:Shape:=⟨sl_16,[],[y0,(.int .i64)],0⟩
def Z52 (x:(T16)):Option T2 :=
 (Z5c x).bind fun r11 =>
 bif (Bool.not r11) then
 some (([]:List Int),(1:Int))
 else
 (Z5e x).bind fun r12 =>
 (Z5f (r12,([]:List Int))).bind fun r13 =>
 bif (eqI r13.1 (0:Int)) then
 some (r13.2.2,(0:Int))
 else
 bif (eqI r13.1 (1:Int)) then
 some (([]:List Int),(0:Int))
 else
 none
abbrev Zu4:=Spec.shp Zl4 Zpm Z52
def Ze8:Ctx:=mC [(196,[],Zu8),(197,[],Zu9)] [(3,6,Ydy (rfF (rfOf 6 Tryz.f160)) 10485766 [4] [] [(231,[11485766],Zua)])] 18 0
theorem Z53:Sound Tryz.prog 160 (Zu4) :=
 tS Ze8 Tryz.f160 ⟨Z5d,Z5h,trivial⟩ ⟨(pR 6 Tryz.f160 (Ye0 (c:=rfOf 6 Tryz.f160) rfl (by kernel_rfl) Z5g [4] [])),trivial⟩
abbrev Zn3:Shape:=⟨sl_17,[],[y5],0⟩
abbrev Zrl:Shape:=⟨sl_1,[],ts_1,0⟩
def Z94 (x:(T7)):Option (Bool) :=
 bif (decide (x.1 ≥ (0:Int))) then
 bif (decide (x.2.1 ≥ (0:Int))) then
 some (decide (x.2.2 ≥ (0:Int)))
 else
 some false
 else
 some false
abbrev Zw2:=Spec.shp Zn3 Zrl Z94
def Zgm:Ctx:=mC [] [] 16 0
theorem Z95:Sound Tryz.prog 199 (Zw2) :=
 tS Zgm Tryz.f199 trivial
abbrev Zn2:Shape:=⟨sl_17,[],[y5],0⟩
abbrev Zrk:Shape:=⟨sl_1,[],ts_1,0⟩
def Z91 (x:(T7)):Option (Bool) :=
 (Z94 x).bind fun r16 =>
 some (Bool.not r16)
abbrev Zw1:=Spec.shp Zn2 Zrk Z91
def Zgl:Ctx:=mC [(199,[],Zw2)] [] 6 0
theorem Z92:Sound Tryz.prog 198 (Zw1) :=
 tS Zgl Tryz.f198 ⟨Z95,trivial⟩
abbrev Zih:Shape:=⟨[(0,(.hole (.slice y5))),(1,(.fn 198 .nil .nil)),(7,(.hole (.int .i64))),(8,(.hole (.int .i64)))],[],[(.slice y5),(.int .i64),(.int .i64)],0⟩
abbrev Zhi:List (ETag × Shape):=[(.ret,⟨sl_3,[],ts_2,0⟩),(.exit 0,⟨[],[],[],0⟩)]
def Zav (x:(List (T7) × Int × Int)):Option ((List (T7) × Int × Int) ⊕ ((Int) ⊕ Unit)) :=
 bif (decide (x.2.2 < x.2.1)) then
 bif (inb x.2.2 (List.length x.1)) then
 (Z91 (getAt ((0:Int),(0:Int),(0:Int)) x.1 (toN x.2.2))).bind fun r15 =>
 bif r15 then
 some (.inr (.inl x.2.2))
 else
 some (.inl (x.1,x.2.1,(IntKind.wrap .i64 (x.2.2+(1:Int)))))
 else
 none
 else
 some (.inr (.inr ()))
def Zfl:Ctx:=mC [(198,[],Zw1)] [] 19 0
theorem Zaw:CSound Tryz.prog ⟨19,0,true⟩ (.loop (loopOf 3 Tryz.f163)) (pieceSpec Zih Zhi (loop Zav)) :=
 tL Zfl 3 Tryz.f163 ⟨Z92,trivial⟩
abbrev Zm6:Shape:=⟨[(0,(.hole (.slice y5))),(1,(.fn 198 .nil .nil))],[],[(.slice y5)],0⟩
abbrev Zqo:Shape:=⟨sl_2,[],ts_2,0⟩
def Z76 (x:(List (T7))):Option (Int) :=
 (loop Zav (x,(((List.length x):Nat):Int),(0:Int))).bind fun r14 =>
 match r14 with
 | .inl y15 =>
 some y15
 | .inr y15 =>
 some (Int.negSucc 0)
abbrev Zv5:=Spec.shp Zm6 Zqo Z76
def Zfk:Ctx:=mC [(198,[],Zw1)] [(0,3,pieceSpec Zih Zhi (loop Zav))] 19 0
theorem Z77:Sound Tryz.prog 163 (Zv5) :=
 tS Zfk Tryz.f163 ⟨Z92,trivial⟩ ⟨(pL 3 Tryz.f163 Zaw),trivial⟩
abbrev Zlu:Shape:=⟨[(0,(.hole (.slice y5))),(1,(.fn 198 .nil .nil))],[],[(.slice y5)],0⟩
abbrev Zqc:Shape:=⟨sl_1,[],ts_1,0⟩
def Z6i (x:(List (T7))):Option (Bool) :=
 (Z76 x).bind fun r13 =>
 some (decide (r13 ≥ (0:Int)))
abbrev Zut:=Spec.shp Zlu Zqc Z6i
def Zf0:Ctx:=mC [(163,[198],Zv5)] [] 9 0
theorem Z6j:Sound Tryz.prog 113 (Zut) :=
 tS Zf0 Tryz.f113 ⟨Z77,trivial⟩
abbrev Zim:Shape:=⟨[(3,(.mp 0)),(7,(.hole (.slice y5))),(8,(.hole (.int .i64))),(9,(.hole (.int .i64)))],[.mp y4 (.int .i64)],[(.slice y5),(.int .i64),(.int .i64),(.slice y8)],0⟩
abbrev Zhn:List (ETag × Shape):=[(.exit 0,⟨[(3,(.mp 0))],[.mp y4 (.int .i64)],[(.slice y8)],0⟩)]
def Zb5 (x:(List (T7) × Int × Int × List (T8))):Option ((List (T7) × Int × Int × List (T8)) ⊕ (List (T8))) :=
 bif (decide (x.2.2.1 < x.2.1)) then
 bif (inb x.2.2.1 (List.length x.1)) then
 bif (inb (natI (@mpos (Int × Int) (Int) (Ty.beq y4) ((getAt ((0:Int),(0:Int),(0:Int)) x.1 (toN x.2.2.1)).1,(getAt ((0:Int),(0:Int),(0:Int)) x.1 (toN x.2.2.1)).2.1) x.2.2.2)) (List.length (@mput (Int × Int) (Int) (Ty.beq y4) ((getAt ((0:Int),(0:Int),(0:Int)) x.1 (toN x.2.2.1)).1,(getAt ((0:Int),(0:Int),(0:Int)) x.1 (toN x.2.2.1)).2.1) (@mlook (Int × Int) (Int) (Ty.beq y4) (Ty.zero (.int .i64)) ((getAt ((0:Int),(0:Int),(0:Int)) x.1 (toN x.2.2.1)).1,(getAt ((0:Int),(0:Int),(0:Int)) x.1 (toN x.2.2.1)).2.1) x.2.2.2) x.2.2.2))) then
 some (.inl (x.1,x.2.1,(IntKind.wrap .i64 (x.2.2.1+(1:Int))),(mset (@mput (Int × Int) (Int) (Ty.beq y4) ((getAt ((0:Int),(0:Int),(0:Int)) x.1 (toN x.2.2.1)).1,(getAt ((0:Int),(0:Int),(0:Int)) x.1 (toN x.2.2.1)).2.1) (@mlook (Int × Int) (Int) (Ty.beq y4) (Ty.zero (.int .i64)) ((getAt ((0:Int),(0:Int),(0:Int)) x.1 (toN x.2.2.1)).1,(getAt ((0:Int),(0:Int),(0:Int)) x.1 (toN x.2.2.1)).2.1) x.2.2.2) x.2.2.2) (toN (natI (@mpos (Int × Int) (Int) (Ty.beq y4) ((getAt ((0:Int),(0:Int),(0:Int)) x.1 (toN x.2.2.1)).1,(getAt ((0:Int),(0:Int),(0:Int)) x.1 (toN x.2.2.1)).2.1) x.2.2.2))) (IntKind.wrap .i64 ((@mlook (Int × Int) (Int) (Ty.beq y4) (Ty.zero (.int .i64)) ((getAt ((0:Int),(0:Int),(0:Int)) x.1 (toN x.2.2.1)).1,(getAt ((0:Int),(0:Int),(0:Int)) x.1 (toN x.2.2.1)).2.1) x.2.2.2)+(1:Int))))))
 else
 none
 else
 none
 else
 some (.inr x.2.2.2)
def Zgo:Ctx:=mC [] [] 25 0
theorem Zb6:CSound Tryz.prog ⟨25,0,true⟩ (.loop (loopOf 4 Tryz.f200)) (pieceSpec Zim Zhn (loop Zb5)) :=
 tL Zgo 4 Tryz.f200 trivial
abbrev Zn4:Shape:=⟨sl_18,[],[(.slice y5)],0⟩
abbrev Zrm:Shape:=⟨[(0,(.mp 0))],[.mp y4 (.int .i64)],[(.slice y8)],0⟩
def Z96 (x:(List (T7))):Option (List (T8)) :=
 (loop Zb5 (x,(((List.length x):Nat):Int),(0:Int),([]:List T8))).bind fun r14 =>
 some r14
abbrev Zw3:=Spec.shp Zn4 Zrm Z96
def Zgn:Ctx:=mC [] [(0,4,pieceSpec Zim Zhn (loop Zb5))] 25 0
theorem Z97:Sound Tryz.prog 200 (Zw3) :=
 tS Zgn Tryz.f200 trivial ⟨(pL 4 Tryz.f200 Zb6),trivial⟩
abbrev Zn1:Shape:=⟨sl_18,[],[(.slice y5)],0⟩
abbrev Zrj:Shape:=⟨sl_1,[],ts_1,0⟩
def Z90 (x:(List (T7))):Option (Bool) :=
 (Z6i x).bind fun r12 =>
 bif r12 then
 some false
 else
 bif (decide ((((List.length x):Nat):Int) ≤ (64:Int))) then
 (Z96 x).bind fun r13 =>
 some ((((List.length r13):Nat):Int) == (((List.length x):Nat):Int))
 else
 some false
abbrev Zw0:=Spec.shp Zn1 Zrj Z90
def Zgk:Ctx:=mC [(113,[198],Zut),(200,[],Zw3)] [] 16 0
theorem Z93:Sound Tryz.prog 161 (Zw0) :=
 tS Zgk Tryz.f161 ⟨Z6j,Z97,trivial⟩
abbrev Zho:Shape:=⟨[(0,(.hole y0)),(1,(.hole (.int .i64))),(2,(.hole (.int .i64))),(9,(.hole y0)),(10,(.hole (.int .i64))),(11,(.hole (.int .i64)))],[],[y0,(.int .i64),(.int .i64),y0,(.int .i64),(.int .i64)],0⟩
abbrev Zgp:List (ETag × Shape):=[(.ret,⟨[(6,(.hole .bool))],[],ts_1,0⟩),(.exit 0,⟨sl_19,[],ts_3,0⟩)]
def Z98 (x:(List Int × Int × Int × List Int × Int × Int)):Option ((List Int × Int × Int × List Int × Int × Int) ⊕ ((Bool) ⊕ T9)) :=
 bif (decide (x.2.2.2.2.2 < x.2.2.2.2.1)) then
 bif (inb x.2.2.2.2.2 (List.length x.2.2.2.1)) then
 bif ((getAt (0:Int) x.2.2.2.1 (toN x.2.2.2.2.2)) != (IntKind.wrap .i64 (x.2.1+x.2.2.2.2.2))) then
 some (.inr (.inl false))
 else
 some (.inl (x.1,x.2.1,x.2.2.1,x.2.2.2.1,x.2.2.2.2.1,(IntKind.wrap .i64 (x.2.2.2.2.2+(1:Int)))))
 else
 none
 else
 some (.inr (.inr (x.1,x.2.1,x.2.2.1)))
def Zbg:Ctx:=mC [] [] 28 0
theorem Z99:CSound Tryz.prog ⟨28,0,true⟩ (.loop (loopOf 3 Tryz.f162)) (pieceSpec Zho Zgp (loop Z98)) :=
 tL Zbg 3 Tryz.f162 trivial
abbrev Ziv:Shape:=⟨sl_19,[],ts_3,0⟩
abbrev Znd:Shape:=⟨sl_1,[],ts_1,0⟩
def Zg (x:T9):Option (Bool) :=
 (loop Z98 (x.1,x.2.1,x.2.2,x.1,(((List.length x.1):Nat):Int),(0:Int))).bind fun r14 =>
 match r14 with
 | .inl y15 =>
 some y15
 | .inr y15 =>
 some ((((List.length y15.1):Nat):Int) == (IntKind.wrap .i64 (y15.2.2 - y15.2.1)))
abbrev Zrv:=Spec.shp Ziv Znd Zg
def Zbf:Ctx:=mC [] [(0,3,pieceSpec Zho Zgp (loop Z98))] 28 0
theorem Zh:Sound Tryz.prog 162 (Zrv) :=
 tS Zbf Tryz.f162 trivial ⟨(pL 3 Tryz.f162 Z99),trivial⟩
abbrev Zis:Shape:=⟨[(0,(.hole y40))],[],[y40],0⟩
abbrev Zna:Shape:=⟨sl_1,[],ts_1,0⟩
def Za (x:T43):Option (Bool) :=
 (Z52 x.2.2.1).bind fun r10 =>
 bif (r10.2 != (0:Int)) then
 some false
 else
 bif (decide (x.1 < (Int.negSucc 0))) then
 some false
 else
 bif (decide (x.1 > (3:Int))) then
 some false
 else
 bif (x.2.2.1.1 != (Max.max x.1 (0:Int))) then
 some false
 else
 (Z90 x.2.2.2.2.2.1).bind fun r11 =>
 bif (Bool.not r11) then
 some false
 else
 (Z90 x.2.2.2.2.2.2).bind fun r12 =>
 bif (Bool.not r12) then
 some false
 else
 bif (decide (x.2.2.2.1 < (0:Int))) then
 some false
 else
 bif (decide (x.2.2.2.1 > (1048576:Int))) then
 some false
 else
 bif (decide (x.2.2.2.2.1 < (0:Int))) then
 some false
 else
 bif (decide (x.2.2.2.2.1 > x.2.2.2.1)) then
 some false
 else
 (Zg (r10.1,x.2.2.2.2.1,x.2.2.2.1)).bind fun r13 =>
 bif (Bool.not r13) then
 some false
 else
 bif (decide (x.1 < (0:Int))) then
 bif (Bool.not x.2.1) then
 bif (x.2.2.2.1 == (0:Int)) then
 bif (Bool.not (decide ((((List.length x.2.2.2.2.2.1):Nat):Int) > (0:Int)))) then
 some (Bool.not (decide ((((List.length x.2.2.2.2.2.2):Nat):Int) > (0:Int))))
 else
 some false
 else
 some false
 else
 some false
 else
 bif x.2.1 then
 bif (Bool.not (decide ((((List.length x.2.2.2.2.2.1):Nat):Int) > (0:Int)))) then
 some (Bool.not (decide ((((List.length x.2.2.2.2.2.2):Nat):Int) > (0:Int))))
 else
 some false
 else
 bif (Bool.not (decide ((((List.length x.2.2.2.2.2.1):Nat):Int) > (0:Int)))) then
 bif (Bool.not (decide ((((List.length x.2.2.2.2.2.2):Nat):Int) > (0:Int)))) then
 some true
 else
 some ((((List.length r10.1):Nat):Int) == (0:Int))
 else
 bif ((((List.length r10.1):Nat):Int) == x.1) then
 bif (Bool.not (decide ((((List.length x.2.2.2.2.2.2):Nat):Int) > (0:Int)))) then
 some true
 else
 some ((((List.length r10.1):Nat):Int) == (0:Int))
 else
 some false
abbrev Zrs:=Spec.shp Zis Zna Za
def Zbc:Ctx:=mC [(160,[],Zu4),(161,[],Zw0),(162,[],Zrv)] [] 130 0
theorem Zb:Sound Tryz.prog 112 (Zrs) :=
 tS Zbc Tryz.f112 ⟨Z53,Z93,Zh,trivial⟩
abbrev Zjf:Shape:=⟨[(0,(.hole .bool)),(1,(.ptr 0 [])),(2,(.ptr 1 []))],[.var (.hole y45),.var (.hole (.int .i64))],[.bool,y45,(.int .i64)],0⟩
abbrev Znx:Shape:=⟨[(0,(.fn 110 .nil (.cons (.ptr 0 []) (.cons (.ptr 1 []) (.cons (.ptr 2 []) .nil)))))],bl_8,[y45,(.int .i64),.bool],2⟩
def Z1l (x:(Bool × (T47 × T61) × Int)):Option ((T47 × T61) × Int × Bool) :=
 some (x.2.1,x.2.2,x.1)
abbrev Zsf:=Spec.shp Zjf Znx Z1l
def Zc4:Ctx:=mC [] [] 6 2
theorem Z1o:Sound Tryz.prog 109 (Zsf) :=
 tS Zc4 Tryz.f109 trivial
abbrev Zka:Shape:=⟨[(0,(.hole y45)),(1,(.hole y5))],[],[y45,y5],0⟩
abbrev Zos:Shape:=⟨[(0,(.hole y5)),(1,(.hole .bool))],[],[y5,.bool],0⟩
def Z3d (x:((T47 × T61) × T7)):Option (T7 × Bool) :=
 bif (decide (x.2.1 ≥ (((List.length x.1.2.1):Nat):Int))) then
 some (((0:Int),(0:Int),(0:Int)),false)
 else
 bif (inb x.2.1 (List.length x.1.2.1)) then
 bif ((getAt ((0:Int),(0:Int),(0:Int),false) x.1.2.1 (toN x.2.1)).2.2.1 != (1:Int)) then
 some (((0:Int),(0:Int),(0:Int)),false)
 else
 bif (inb x.2.1 (List.length x.1.2.1)) then
 bif (inb (getAt ((0:Int),(0:Int),(0:Int),false) x.1.2.1 (toN x.2.1)).1 (List.length x.1.1.2.2.2.2.2)) then
 bif (inb (getAt ((0:Int),(0:Int),(0:Int),false) x.1.2.1 (toN x.2.1)).2.1 (List.length (getAt ([]:List T7) x.1.1.2.2.2.2.2 (toN (getAt ((0:Int),(0:Int),(0:Int),false) x.1.2.1 (toN x.2.1)).1)))) then
 some ((getAt ((0:Int),(0:Int),(0:Int)) (getAt ([]:List T7) x.1.1.2.2.2.2.2 (toN (getAt ((0:Int),(0:Int),(0:Int),false) x.1.2.1 (toN x.2.1)).1)) (toN (getAt ((0:Int),(0:Int),(0:Int),false) x.1.2.1 (toN x.2.1)).2.1)),true)
 else
 none
 else
 none
 else
 none
 else
 none
abbrev Zta:=Spec.shp Zka Zos Z3d
def Zd5:Ctx:=mC [] [] 41 0
theorem Z3e:Sound Tryz.prog 116 (Zta) :=
 tS Zd5 Tryz.f116 trivial
abbrev Zja:Shape:=⟨[(0,(.hole y45)),(1,(.hole y5)),(2,(.hole (.int .i64))),(3,(.hole .bool))],[],[y45,y5,(.int .i64),.bool],0⟩
abbrev Zns:Shape:=⟨sl_1,[],ts_1,0⟩
def Z1c (x:((T47 × T61) × T7 × Int × Bool)):Option (Bool) :=
 (Z3d (x.1,x.2.1)).bind fun r16 =>
 bif (Bool.not r16.2) then
 some false
 else
 bif (r16.1.1 == (4:Int)) then
 bif (inb r16.1.2.1 (List.length x.1.1.2.2.2.2.1)) then
 bif (decide (x.2.1.2.1 < (((List.length (getAt (([]:List T0),false) x.1.1.2.2.2.2.1 (toN r16.1.2.1)).1):Nat):Int))) then
 bif (inb x.2.1.2.1 (List.length (getAt (([]:List T0),false) x.1.1.2.2.2.2.1 (toN r16.1.2.1)).1)) then
 some (((getAt (false,(0:Int)) (getAt (([]:List T0),false) x.1.1.2.2.2.2.1 (toN r16.1.2.1)).1 (toN x.2.1.2.1)).1 == (x.2.2.2,x.2.2.1).1) && ((getAt (false,(0:Int)) (getAt (([]:List T0),false) x.1.1.2.2.2.2.1 (toN r16.1.2.1)).1 (toN x.2.1.2.1)).2 == (x.2.2.2,x.2.2.1).2))
 else
 none
 else
 some false
 else
 none
 else
 bif x.2.2.2 then
 some ((r16.1.1 == ((1:Int),x.2.2.1,(0:Int)).1) && ((r16.1.2.1 == ((1:Int),x.2.2.1,(0:Int)).2.1) && (r16.1.2.2 == ((1:Int),x.2.2.1,(0:Int)).2.2)))
 else
 some ((r16.1.1 == ((2:Int),x.2.2.1,(0:Int)).1) && ((r16.1.2.1 == ((2:Int),x.2.2.1,(0:Int)).2.1) && (r16.1.2.2 == ((2:Int),x.2.2.1,(0:Int)).2.2)))
abbrev Zsa:=Spec.shp Zja Zns Z1c
def Zbx:Ctx:=mC [(116,[],Zta)] [] 59 0
theorem Z1d:Sound Tryz.prog 111 (Zsa) :=
 tS Zbx Tryz.f111 ⟨Z3e,trivial⟩
abbrev Zjg:Shape:=⟨sl_20,bl_8,[y5,y45,(.int .i64),.bool],0⟩
abbrev Zny:Shape:=⟨sl_1,bl_8,[.bool,y45,(.int .i64),.bool],3⟩
def Z1m (x:(T7 × (T47 × T61) × Int × Bool)):Option (Bool × (T47 × T61) × Int × Bool) :=
 (Z1c (x.2.1,x.1,x.2.2.1,x.2.2.2)).bind fun r15 =>
 some ((Bool.not r15),x.2.1,x.2.2.1,x.2.2.2)
abbrev Zsg:=Spec.shp Zjg Zny Z1m
def Zc6:Ctx:=mC [(111,[],Zsa)] [] 12 3
theorem Z1n:Sound Tryz.prog 110 (Zsg) :=
 tS Zc6 Tryz.f110 ⟨Z1d,trivial⟩
abbrev Zid:Shape:=⟨[(0,(.hole (.slice y5))),(1,(.fn 110 .nil (.cons (.ptr 0 []) (.cons (.ptr 1 []) (.cons (.ptr 2 []) .nil))))),(7,(.hole (.int .i64))),(8,(.hole (.int .i64)))],bl_8,[(.slice y5),(.int .i64),(.int .i64),y45,(.int .i64),.bool],3⟩
abbrev Zhe:List (ETag × Shape):=[(.ret,⟨sl_3,bl_8,[(.int .i64),y45,(.int .i64),.bool],3⟩),(.exit 0,⟨[],bl_8,[y45,(.int .i64),.bool],3⟩)]
def Zan (x:(List (T7) × Int × Int × (T47 × T61) × Int × Bool)):Option ((List (T7) × Int × Int × (T47 × T61) × Int × Bool) ⊕ ((Int × (T47 × T61) × Int × Bool) ⊕ ((T47 × T61) × Int × Bool))) :=
 bif (decide (x.2.2.1 < x.2.1)) then
 bif (inb x.2.2.1 (List.length x.1)) then
 (Z1m ((getAt ((0:Int),(0:Int),(0:Int)) x.1 (toN x.2.2.1)),x.2.2.2.1,x.2.2.2.2.1,x.2.2.2.2.2)).bind fun r14 =>
 bif r14.1 then
 some (.inr (.inl (x.2.2.1,r14.2.1,r14.2.2.1,r14.2.2.2)))
 else
 some (.inl (x.1,x.2.1,(IntKind.wrap .i64 (x.2.2.1+(1:Int))),r14.2.1,r14.2.2.1,r14.2.2.2))
 else
 none
 else
 some (.inr (.inr (x.2.2.2.1,x.2.2.2.2.1,x.2.2.2.2.2)))
def Zfd:Ctx:=mC [(110,[],Zsg)] [] 19 3
theorem Zao:CSound Tryz.prog ⟨19,3,true⟩ (.loop (loopOf 3 Tryz.f163)) (pieceSpec Zid Zhe (loop Zan)) :=
 tL Zfd 3 Tryz.f163 ⟨Z1n,trivial⟩
abbrev Zm2:Shape:=⟨sl_21,bl_8,[(.slice y5),y45,(.int .i64),.bool],0⟩
abbrev Zqk:Shape:=⟨sl_2,bl_8,[(.int .i64),y45,(.int .i64),.bool],3⟩
def Z6y (x:(List (T7) × (T47 × T61) × Int × Bool)):Option (Int × (T47 × T61) × Int × Bool) :=
 (loop Zan (x.1,(((List.length x.1):Nat):Int),(0:Int),x.2.1,x.2.2.1,x.2.2.2)).bind fun r13 =>
 match r13 with
 | .inl y14 =>
 some (y14.1,y14.2.1,y14.2.2.1,y14.2.2.2)
 | .inr y14 =>
 some ((Int.negSucc 0),y14.1,y14.2.1,y14.2.2)
abbrev Zv1:=Spec.shp Zm2 Zqk Z6y
def Zfc:Ctx:=mC [(110,[],Zsg)] [(0,3,pieceSpec Zid Zhe (loop Zan))] 19 3
theorem Z6z:Sound Tryz.prog 163 (Zv1) :=
 tS Zfc Tryz.f163 ⟨Z1n,trivial⟩ ⟨(pL 3 Tryz.f163 Zao),trivial⟩
abbrev Zls:Shape:=⟨sl_21,bl_8,[(.slice y5),y45,(.int .i64),.bool],0⟩
abbrev Zqa:Shape:=⟨sl_1,bl_8,[.bool,y45,(.int .i64),.bool],3⟩
def Z6e (x:(List (T7) × (T47 × T61) × Int × Bool)):Option (Bool × (T47 × T61) × Int × Bool) :=
 (Z6y (x.1,x.2.1,x.2.2.1,x.2.2.2)).bind fun r12 =>
 some ((decide (r12.1 ≥ (0:Int))),r12.2.1,r12.2.2.1,r12.2.2.2)
abbrev Zur:=Spec.shp Zls Zqa Z6e
def Zey:Ctx:=mC [(163,[110],Zv1)] [] 9 3
theorem Z6f:Sound Tryz.prog 113 (Zur) :=
 tS Zey Tryz.f113 ⟨Z6z,trivial⟩
abbrev Zhu:Shape:=⟨[(1,(.ptr 0 [])),(3,(.ptr 1 [])),(64,(.hole y41)),(65,(.hole (.int .i64))),(66,(.hole (.int .i64)))],[.var (.hole y45),.var (.hole y39)],[y41,(.int .i64),(.int .i64),y45,y39],0⟩
abbrev Zgv:List (ETag × Shape):=[(.ret,⟨[(2,(.hole .bool))],[],ts_1,0⟩),(.exit 0,⟨[(1,(.ptr 0 []))],bl_9,[y45],0⟩)]
def Z9k (x:(List T43 × Int × Int × (T47 × T61) × T47)):Option ((List T43 × Int × Int × (T47 × T61) × T47) ⊕ ((Bool) ⊕ T62)) :=
 bif (decide (x.2.2.1 < x.2.1)) then
 bif (inb x.2.2.1 (List.length x.1)) then
 (Za (getAt ((0:Int),false,((0:Int),(0:Int),([]:List Int),(0:Int)),(0:Int),(0:Int),([]:List T7),([]:List T7)) x.1 (toN x.2.2.1))).bind fun r9 =>
 bif (Bool.not r9) then
 some (.inr (.inl false))
 else
 bif (inb x.2.2.1 (List.length x.2.2.2.2.1)) then
 bif ((getAt ((0:Int),false,((0:Int),(0:Int),([]:List Int),(0:Int)),(0:Int),(0:Int),([]:List T7),([]:List T7)) x.1 (toN x.2.2.1)).1 != (getAt (0:Int) x.2.2.2.2.1 (toN x.2.2.1))) then
 some (.inr (.inl false))
 else
 (Z1l (true,x.2.2.2.1,x.2.2.1)).bind fun r10 =>
 (Z6e ((getAt ((0:Int),false,((0:Int),(0:Int),([]:List Int),(0:Int)),(0:Int),(0:Int),([]:List T7),([]:List T7)) x.1 (toN x.2.2.1)).2.2.2.2.2.1,r10.1,r10.2.1,r10.2.2)).bind fun r11 =>
 bif r11.1 then
 some (.inr (.inl false))
 else
 (Z1l (false,r11.2.1,r11.2.2.1)).bind fun r12 =>
 (Z6e ((getAt ((0:Int),false,((0:Int),(0:Int),([]:List Int),(0:Int)),(0:Int),(0:Int),([]:List T7),([]:List T7)) x.1 (toN x.2.2.1)).2.2.2.2.2.2,r12.1,r12.2.1,r12.2.2)).bind fun r13 =>
 bif r13.1 then
 some (.inr (.inl false))
 else
 some (.inl (x.1,x.2.1,(IntKind.wrap .i64 (x.2.2.1+(1:Int))),r13.2.1,x.2.2.2.2))
 else
 none
 else
 none
 else
 some (.inr (.inr x.2.2.2.1))
def Zc9:Ctx:=mC [(38,[],Zto),(95,[107],Zup),(112,[],Zrs),(109,[],Zsf),(113,[110],Zur)] [] 141 0
theorem Z9l:CSound Tryz.prog ⟨141,0,true⟩ (.loop (loopOf 8 Tryz.f57)) (pieceSpec Zhu Zgv (loop Z9k)) :=
 tL Zc9 8 Tryz.f57 ⟨Z47,Z6b,Zb,Z1o,Z6f,trivial⟩
abbrev Zj4:Shape:=⟨[(0,(.hole y15))],[],[y15],0⟩
abbrev Znm:Shape:=⟨sl_1,[],ts_1,0⟩
def Z10 (x:(T18)):Option (Bool) :=
 (Z90 x.2).bind fun r12 =>
 bif r12 then
 bif x.1 then
 some true
 else
 some ((((List.length x.2):Nat):Int) == (0:Int))
 else
 some false
abbrev Zs4:=Spec.shp Zj4 Znm Z10
def Zbp:Ctx:=mC [(161,[],Zw0)] [] 16 0
theorem Z11:Sound Tryz.prog 117 (Zs4) :=
 tS Zbp Tryz.f117 ⟨Z93,trivial⟩
abbrev Zjh:Shape:=⟨[(0,(.hole (.int .i64))),(1,(.hole (.int .i64))),(2,(.ptr 0 []))],bl_9,[(.int .i64),(.int .i64),y45],0⟩
abbrev Znz:Shape:=⟨[(0,(.fn 115 .nil (.cons (.ptr 0 []) (.cons (.ptr 1 []) (.cons (.ptr 2 []) .nil)))))],bl_10,[y45,(.int .i64),(.int .i64)],1⟩
def Z1p (x:(Int × Int × (T47 × T61))):Option ((T47 × T61) × Int × Int) :=
 some (x.2.2,x.1,x.2.1)
abbrev Zsh:=Spec.shp Zjh Znz Z1p
def Zc7:Ctx:=mC [] [] 7 1
theorem Z1s:Sound Tryz.prog 114 (Zsh) :=
 tS Zc7 Tryz.f114 trivial
abbrev Zji:Shape:=⟨sl_20,bl_10,[y5,y45,(.int .i64),(.int .i64)],0⟩
abbrev Zo0:Shape:=⟨sl_1,bl_10,[.bool,y45,(.int .i64),(.int .i64)],3⟩
def Z1q (x:(T7 × (T47 × T61) × Int × Int)):Option (Bool × (T47 × T61) × Int × Int) :=
 (Z3d (x.2.1,x.1)).bind fun r17 =>
 bif (Bool.not r17.2) then
 some (true,x.2.1,x.2.2.1,x.2.2.2)
 else
 bif (r17.1.1 != x.2.2.1) then
 some (true,x.2.1,x.2.2.1,x.2.2.2)
 else
 some ((r17.1.2.1 != x.2.2.2),x.2.1,x.2.2.1,x.2.2.2)
abbrev Zsi:=Spec.shp Zji Zo0 Z1q
def Zc8:Ctx:=mC [(116,[],Zta)] [] 28 3
theorem Z1r:Sound Tryz.prog 115 (Zsi) :=
 tS Zc8 Tryz.f115 ⟨Z3e,trivial⟩
abbrev Zie:Shape:=⟨[(0,(.hole (.slice y5))),(1,(.fn 115 .nil (.cons (.ptr 0 []) (.cons (.ptr 1 []) (.cons (.ptr 2 []) .nil))))),(7,(.hole (.int .i64))),(8,(.hole (.int .i64)))],bl_10,[(.slice y5),(.int .i64),(.int .i64),y45,(.int .i64),(.int .i64)],3⟩
abbrev Zhf:List (ETag × Shape):=[(.ret,⟨sl_3,bl_10,[(.int .i64),y45,(.int .i64),(.int .i64)],3⟩),(.exit 0,⟨[],bl_10,[y45,(.int .i64),(.int .i64)],3⟩)]
def Zap (x:(List (T7) × Int × Int × (T47 × T61) × Int × Int)):Option ((List (T7) × Int × Int × (T47 × T61) × Int × Int) ⊕ ((Int × (T47 × T61) × Int × Int) ⊕ ((T47 × T61) × Int × Int))) :=
 bif (decide (x.2.2.1 < x.2.1)) then
 bif (inb x.2.2.1 (List.length x.1)) then
 (Z1q ((getAt ((0:Int),(0:Int),(0:Int)) x.1 (toN x.2.2.1)),x.2.2.2.1,x.2.2.2.2.1,x.2.2.2.2.2)).bind fun r16 =>
 bif r16.1 then
 some (.inr (.inl (x.2.2.1,r16.2.1,r16.2.2.1,r16.2.2.2)))
 else
 some (.inl (x.1,x.2.1,(IntKind.wrap .i64 (x.2.2.1+(1:Int))),r16.2.1,r16.2.2.1,r16.2.2.2))
 else
 none
 else
 some (.inr (.inr (x.2.2.2.1,x.2.2.2.2.1,x.2.2.2.2.2)))
def Zff:Ctx:=mC [(115,[],Zsi)] [] 19 3
theorem Zaq:CSound Tryz.prog ⟨19,3,true⟩ (.loop (loopOf 3 Tryz.f163)) (pieceSpec Zie Zhf (loop Zap)) :=
 tL Zff 3 Tryz.f163 ⟨Z1r,trivial⟩
abbrev Zm3:Shape:=⟨sl_22,bl_10,[(.slice y5),y45,(.int .i64),(.int .i64)],0⟩
abbrev Zql:Shape:=⟨sl_2,bl_10,[(.int .i64),y45,(.int .i64),(.int .i64)],3⟩
def Z70 (x:(List (T7) × (T47 × T61) × Int × Int)):Option (Int × (T47 × T61) × Int × Int) :=
 (loop Zap (x.1,(((List.length x.1):Nat):Int),(0:Int),x.2.1,x.2.2.1,x.2.2.2)).bind fun r15 =>
 match r15 with
 | .inl y16 =>
 some (y16.1,y16.2.1,y16.2.2.1,y16.2.2.2)
 | .inr y16 =>
 some ((Int.negSucc 0),y16.1,y16.2.1,y16.2.2)
abbrev Zv2:=Spec.shp Zm3 Zql Z70
def Zfe:Ctx:=mC [(115,[],Zsi)] [(0,3,pieceSpec Zie Zhf (loop Zap))] 19 3
theorem Z71:Sound Tryz.prog 163 (Zv2) :=
 tS Zfe Tryz.f163 ⟨Z1r,trivial⟩ ⟨(pL 3 Tryz.f163 Zaq),trivial⟩
abbrev Zlt:Shape:=⟨sl_22,bl_10,[(.slice y5),y45,(.int .i64),(.int .i64)],0⟩
abbrev Zqb:Shape:=⟨sl_1,bl_10,[.bool,y45,(.int .i64),(.int .i64)],3⟩
def Z6g (x:(List (T7) × (T47 × T61) × Int × Int)):Option (Bool × (T47 × T61) × Int × Int) :=
 (Z70 (x.1,x.2.1,x.2.2.1,x.2.2.2)).bind fun r14 =>
 some ((decide (r14.1 ≥ (0:Int))),r14.2.1,r14.2.2.1,r14.2.2.2)
abbrev Zus:=Spec.shp Zlt Zqb Z6g
def Zez:Ctx:=mC [(163,[115],Zv2)] [] 9 3
theorem Z6h:Sound Tryz.prog 113 (Zus) :=
 tS Zez Tryz.f113 ⟨Z71,trivial⟩
abbrev Zhs:Shape:=⟨[(1,(.ptr 0 [])),(7,(.fn 114 .nil (.cons (.ptr 0 []) .nil))),(102,(.hole y19)),(103,(.hole (.int .i64))),(104,(.hole (.int .i64)))],bl_9,[y19,(.int .i64),(.int .i64),y45],0⟩
abbrev Zgt:List (ETag × Shape):=[(.ret,⟨[(2,(.hole .bool))],[],ts_1,0⟩),(.exit 2,⟨[(1,(.ptr 0 [])),(7,(.fn 114 .nil (.cons (.ptr 0 []) .nil)))],bl_9,[y45],0⟩)]
def Z9g (x:(List (T18) × Int × Int × (T47 × T61))):Option ((List (T18) × Int × Int × (T47 × T61)) ⊕ ((Bool) ⊕ T62)) :=
 bif (decide (x.2.2.1 < x.2.1)) then
 bif (inb x.2.2.1 (List.length x.1)) then
 (Z10 (getAt (false,([]:List T7)) x.1 (toN x.2.2.1))).bind fun r11 =>
 bif (Bool.not r11) then
 some (.inr (.inl false))
 else
 (Z1p ((5:Int),x.2.2.1,x.2.2.2)).bind fun r12 =>
 (Z6g ((getAt (false,([]:List T7)) x.1 (toN x.2.2.1)).2,r12.1,r12.2.1,r12.2.2)).bind fun r13 =>
 bif r13.1 then
 some (.inr (.inl false))
 else
 some (.inl (x.1,x.2.1,(IntKind.wrap .i64 (x.2.2.1+(1:Int))),r13.2.1))
 else
 none
 else
 some (.inr (.inr x.2.2.2))
def Zc3:Ctx:=mC [(38,[],Zto),(95,[107],Zup),(112,[],Zrs),(109,[],Zsf),(113,[110],Zur),(117,[],Zs4),(114,[],Zsh),(113,[115],Zus)] [(0,8,pieceSpec Zhu Zgv (loop Z9k))] 141 0
theorem Z9h:CSound Tryz.prog ⟨141,0,true⟩ (.loop (loopOf 16 Tryz.f57)) (pieceSpec Zhs Zgt (loop Z9g)) :=
 tL Zc3 16 Tryz.f57 ⟨Z47,Z6b,Zb,Z1o,Z6f,Z11,Z1s,Z6h,trivial⟩ ⟨pN,trivial⟩
abbrev Zln:Shape:=⟨sl_18,[],[(.slice y5)],0⟩
abbrev Zq5:Shape:=⟨[(0,(.sl 0))],[.row y5],[(.slice y5)],0⟩
def Z64 (x:(List (T7))):Option (List (T7)) :=
 bif (@Nat.beq (List.length x) (0:Nat)) then
 amb (
 some ([]:List T7)) (
 bif (fits ((List.length ([]:List T7))+(List.length x))) then
 some (([]:List T7)++x)
 else
 none)
 else
 bif (fits ((List.length ([]:List T7))+(List.length x))) then
 some (([]:List T7)++x)
 else
 none
abbrev Zum:=Spec.shp Zln Zq5 Z64
def Zet:Ctx:=mC [] [] 8 0
theorem Z65:Sound Tryz.prog 202 (Zum) :=
 tS Zet Tryz.f202 trivial
abbrev Zmx:Shape:=⟨[(0,(.hole y5)),(1,(.ptr 0 []))],bl_3,[y5,(.int .i64)],0⟩
abbrev Zrf:Shape:=⟨sl_1,bl_3,[.bool,(.int .i64)],1⟩
def Z8p (x:(T7 × Int)):Option T0 :=
 some ((x.1.1 == x.2),x.2)
abbrev Zvw:=Spec.shp Zmx Zrf Z8p
def Zgg:Ctx:=mC [] [] 8 1
theorem Z8q:Sound Tryz.prog 203 (Zvw) :=
 tS Zgg Tryz.f203 trivial
theorem Z8r:Sound Tryz.prog 203 (Spec.shpR Zmx Zrf Z8p) :=
 Sound.shpR (fun x y h=>by have h:=Option.some.inj h; subst h; rfl) Z8q
abbrev Zif:Shape:=⟨[(0,(.sl 0)),(1,(.fn 203 .nil (.cons (.ptr 1 []) .nil))),(7,(.hole (.int .i64))),(8,(.hole (.int .i64)))],bl_11,[(.int .i64),(.int .i64),(.slice y5),(.int .i64)],2⟩
abbrev Zhg:List (ETag × Shape):=[(.ret,⟨sl_3,bl_11,[(.int .i64),(.slice y5),(.int .i64)],2⟩),(.exit 0,⟨[],bl_11,ts_12,2⟩)]
def Zar (x:(Int × Int × List (T7) × Int)):Option ((Int × Int × List (T7) × Int) ⊕ ((Int × List (T7) × Int) ⊕ T15)) :=
 bif (decide (x.2.1 < x.1)) then
 bif (inb x.2.1 (List.length x.2.2.1)) then
 (Z8p ((getAt ((0:Int),(0:Int),(0:Int)) x.2.2.1 (toN x.2.1)),x.2.2.2)).bind fun r21 =>
 bif r21.1 then
 some (.inr (.inl (x.2.1,x.2.2.1,x.2.2.2)))
 else
 some (.inl (x.1,(IntKind.wrap .i64 (x.2.1+(1:Int))),x.2.2.1,x.2.2.2))
 else
 none
 else
 some (.inr (.inr (x.2.2.1,x.2.2.2)))
def Zfh:Ctx:=mC [(203,[],Spec.shpR Zmx Zrf Z8p)] [] 19 2
theorem Zas:CSound Tryz.prog ⟨19,2,true⟩ (.loop (loopOf 3 Tryz.f163)) (pieceSpec Zif Zhg (loop Zar)) :=
 tL Zfh 3 Tryz.f163 ⟨Z8r,trivial⟩
abbrev Zm4:Shape:=⟨[(0,(.sl 0)),(1,(.fn 203 .nil (.cons (.ptr 1 []) .nil)))],bl_11,ts_12,0⟩
abbrev Zqm:Shape:=⟨sl_2,bl_11,[(.int .i64),(.slice y5),(.int .i64)],2⟩
def Z72 (x:T15):Option (Int × List (T7) × Int) :=
 (loop Zar ((((List.length x.1):Nat):Int),(0:Int),x.1,x.2)).bind fun r20 =>
 match r20 with
 | .inl y21 =>
 some (y21.1,y21.2.1,y21.2.2)
 | .inr y21 =>
 some ((Int.negSucc 0),y21.1,y21.2)
abbrev Zv3:=Spec.shp Zm4 Zqm Z72
def Zfg:Ctx:=mC [(203,[],Spec.shpR Zmx Zrf Z8p)] [(0,3,pieceSpec Zif Zhg (loop Zar))] 19 2
theorem Z73:Sound Tryz.prog 163 (Zv3) :=
 tS Zfg Tryz.f163 ⟨Z8r,trivial⟩ ⟨(pL 3 Tryz.f163 Zas),trivial⟩
abbrev Zi9:Shape:=⟨[(0,(.sl 1)),(1,(.fn 203 .nil (.cons (.ptr 0 []) .nil))),(5,(.hole (.int .i64))),(6,(.hole (.int .i64)))],[.var (.hole (.int .i64)),.row y5],[(.int .i64),(.int .i64),(.int .i64),(.slice y5)],1⟩
abbrev Zha:List (ETag × Shape):=[(.exit 0,⟨[(0,(.sl 1)),(5,(.hole (.int .i64)))],[.var (.hole (.int .i64)),.row y5],[(.int .i64),(.int .i64),(.slice y5)],1⟩)]
def Zaf (x:(Int × Int × Int × List (T7))):Option ((Int × Int × Int × List (T7)) ⊕ (Int × Int × List (T7))) :=
 bif (decide (x.2.1 < (((List.length x.2.2.2):Nat):Int))) then
 bif (inb x.2.1 (List.length x.2.2.2)) then
 (Z8p ((getAt ((0:Int),(0:Int),(0:Int)) x.2.2.2 (toN x.2.1)),x.2.2.1)).bind fun r21 =>
 bif (Bool.not r21.1) then
 bif (inb x.1 (List.length x.2.2.2)) then
 some (.inl ((IntKind.wrap .i64 (x.1+(1:Int))),(IntKind.wrap .i64 (x.2.1+(1:Int))),x.2.2.1,(List.set x.2.2.2 (toN x.1) (getAt ((0:Int),(0:Int),(0:Int)) x.2.2.2 (toN x.2.1)))))
 else
 none
 else
 some (.inl (x.1,(IntKind.wrap .i64 (x.2.1+(1:Int))),x.2.2.1,x.2.2.2))
 else
 none
 else
 some (.inr (x.1,x.2.2.1,x.2.2.2))
def Zf5:Ctx:=mC [(163,[2000000,203],Zv3),(203,[],Spec.shpR Zmx Zrf Z8p)] [] 42 1
theorem Zag:CSound Tryz.prog ⟨42,1,true⟩ (.loop (loopOf 6 Tryz.f201)) (pieceSpec Zi9 Zha (loop Zaf)) :=
 tL Zf5 6 Tryz.f201 ⟨Z73,Z8r,trivial⟩
abbrev Zly:Shape:=⟨[(0,(.sl 1)),(1,(.fn 203 .nil (.cons (.ptr 0 []) .nil)))],[.var (.hole (.int .i64)),.row y5],[(.int .i64),(.slice y5)],0⟩
abbrev Zqg:Shape:=⟨sl_18,bl_3,ts_12,1⟩
def Z6q (x:T13):Option T15 :=
 (Z72 (x.2,x.1)).bind fun r19 =>
 bif (r19.1 == (Int.negSucc 0)) then
 some (r19.2.1,r19.2.2)
 else
 (loop Zaf (r19.1,(IntKind.wrap .i64 (r19.1+(1:Int))),r19.2.2,r19.2.1)).bind fun r20 =>
 bif (sub3 r20.1 (((List.length r20.2.2):Nat):Int) (List.length r20.2.2)) then
 bif (sub3 (0:Int) r20.1 (List.length (over r20.2.2 (List.replicate ((toN (((List.length r20.2.2):Nat):Int)) - (toN r20.1)) ((0:Int),(0:Int),(0:Int))) (toN r20.1) ((toN (((List.length r20.2.2):Nat):Int)) - (toN r20.1))))) then
 some ((cut (over r20.2.2 (List.replicate ((toN (((List.length r20.2.2):Nat):Int)) - (toN r20.1)) ((0:Int),(0:Int),(0:Int))) (toN r20.1) ((toN (((List.length r20.2.2):Nat):Int)) - (toN r20.1))) (toN (0:Int)) ((toN r20.1) - (toN (0:Int)))),r20.2.1)
 else
 none
 else
 none
abbrev Zux:=Spec.shp Zly Zqg Z6q
def Zf4:Ctx:=mC [(163,[2000000,203],Zv3),(203,[],Spec.shpR Zmx Zrf Z8p)] [(0,6,pieceSpec Zi9 Zha (loop Zaf))] 42 1
theorem Z6r:Sound Tryz.prog 201 (Zux) :=
 tS Zf4 Tryz.f201 ⟨Z73,Z8r,trivial⟩ ⟨(pL 6 Tryz.f201 Zag),trivial⟩
abbrev Zmw:Shape:=⟨sl_23,[],ts_12,0⟩
abbrev Zre:Shape:=⟨sl_23,[],ts_12,0⟩
def Z8o (x:T15):Option T15 :=
 (Z90 x.1).bind fun r16 =>
 bif (Bool.not r16) then
 some (([]:List T7),(1:Int))
 else
 bif (decide (x.2 < (0:Int))) then
 some (([]:List T7),(1:Int))
 else
 (Z64 x.1).bind fun r17 =>
 (Z6q (x.2,r17)).bind fun r18 =>
 some (r18.1,(0:Int))
abbrev Zvv:=Spec.shp Zmw Zre Z8o
def Zgf:Ctx:=mC [(161,[],Zw0),(202,[],Zum),(201,[2000000,203],Zux)] [] 17 0
theorem Z8s:Sound Tryz.prog 164 (Zvv) :=
 tS Zgf Tryz.f164 ⟨Z93,Z65,Z6r,trivial⟩
abbrev Zkd:Shape:=⟨[(0,(.hole y23))],[],[y23],0⟩
abbrev Zov:Shape:=⟨sl_1,[],ts_1,0⟩
def Z3j (x:T29):Option (Bool) :=
 bif (decide (x.2.1 < (0:Int))) then
 some false
 else
 (Z90 x.2.2).bind fun r14 =>
 bif (Bool.not r14) then
 some false
 else
 bif (x.1 == (1:Int)) then
 (Z8o (x.2.2,x.2.1)).bind fun r15 =>
 some ((((List.length r15.1):Nat):Int) == (((List.length x.2.2):Nat):Int))
 else
 bif (x.1 == (0:Int)) then
 bif (x.2.1 == (0:Int)) then
 some ((((List.length x.2.2):Nat):Int) == (0:Int))
 else
 some false
 else
 bif (x.1 == (2:Int)) then
 bif (x.2.1 == (0:Int)) then
 some ((((List.length x.2.2):Nat):Int) == (0:Int))
 else
 some false
 else
 some false
abbrev Ztd:=Spec.shp Zkd Zov Z3j
def Zd8:Ctx:=mC [(161,[],Zw0),(164,[],Zvv)] [] 44 0
theorem Z3k:Sound Tryz.prog 118 (Ztd) :=
 tS Zd8 Tryz.f118 ⟨Z93,Z8s,trivial⟩
abbrev Zht:Shape:=⟨[(7,(.fn 114 .nil (.cons (.ptr 0 []) .nil))),(122,(.hole y26)),(123,(.hole (.int .i64))),(124,(.hole (.int .i64)))],bl_9,[y26,(.int .i64),(.int .i64),y45],0⟩
abbrev Zgu:List (ETag × Shape):=[(.ret,⟨[(2,(.hole .bool))],[],ts_1,0⟩),(.exit 4,⟨[],[],[],0⟩)]
def Z9i (x:(List T29 × Int × Int × (T47 × T61))):Option ((List T29 × Int × Int × (T47 × T61)) ⊕ ((Bool) ⊕ Unit)) :=
 bif (decide (x.2.2.1 < x.2.1)) then
 bif (inb x.2.2.1 (List.length x.1)) then
 (Z3j (getAt ((0:Int),(0:Int),([]:List T7)) x.1 (toN x.2.2.1))).bind fun r13 =>
 bif (Bool.not r13) then
 some (.inr (.inl false))
 else
 (Z1p ((7:Int),x.2.2.1,x.2.2.2)).bind fun r14 =>
 (Z6g ((getAt ((0:Int),(0:Int),([]:List T7)) x.1 (toN x.2.2.1)).2.2,r14.1,r14.2.1,r14.2.2)).bind fun r15 =>
 bif r15.1 then
 some (.inr (.inl false))
 else
 some (.inl (x.1,x.2.1,(IntKind.wrap .i64 (x.2.2.1+(1:Int))),r15.2.1))
 else
 none
 else
 some (.inr (.inr ()))
def Zc5:Ctx:=mC [(38,[],Zto),(95,[107],Zup),(112,[],Zrs),(109,[],Zsf),(113,[110],Zur),(117,[],Zs4),(114,[],Zsh),(113,[115],Zus),(118,[],Ztd)] [(0,8,pieceSpec Zhu Zgv (loop Z9k)),(0,16,pieceSpec Zhs Zgt (loop Z9g))] 141 0
theorem Z9j:CSound Tryz.prog ⟨141,0,true⟩ (.loop (loopOf 22 Tryz.f57)) (pieceSpec Zht Zgu (loop Z9i)) :=
 tL Zc5 22 Tryz.f57 ⟨Z47,Z6b,Zb,Z1o,Z6f,Z11,Z1s,Z6h,Z3k,trivial⟩ ⟨pN,pN,trivial⟩
abbrev Zjd:Shape:=⟨[(0,(.hole y45))],[],[y45],0⟩
abbrev Znv:Shape:=⟨sl_1,[],ts_1,0⟩
def Z1i (x:T62):Option (Bool) :=
 (Z46 x.1).bind fun r6 =>
 bif (Bool.not r6) then
 some false
 else
 bif (decide ((((List.length x.2.1):Nat):Int) < (1:Int))) then
 some false
 else
 bif (decide ((((List.length x.2.1):Nat):Int) > (8:Int))) then
 some false
 else
 bif ((((List.length x.2.2.1):Nat):Int) != (((List.length x.1.1):Nat):Int)) then
 some false
 else
 bif ((((List.length x.2.2.2.1):Nat):Int) != x.1.2.1) then
 some false
 else
 bif ((((List.length x.2.2.2.2.1):Nat):Int) != x.1.2.2.1) then
 some false
 else
 bif (decide (x.2.2.2.2.2.1 < (0:Int))) then
 some false
 else
 (Z6a (x.2.1,x.1)).bind fun r7 =>
 bif r7.1 then
 some false
 else
 (loop Z9k (x.2.2.1,(((List.length x.2.2.1):Nat):Int),(0:Int),x,r7.2)).bind fun r8 =>
 match r8 with
 | .inl y9 =>
 some y9
 | .inr y9 =>
 (loop Z9g (y9.2.2.2.1,(((List.length y9.2.2.2.1):Nat):Int),(0:Int),y9)).bind fun r10 =>
 match r10 with
 | .inl y11 =>
 some y11
 | .inr y11 =>
 (loop Z9i (y11.2.2.2.2.1,(((List.length y11.2.2.2.2.1):Nat):Int),(0:Int),y11)).bind fun r12 =>
 match r12 with
 | .inl y13 =>
 some y13
 | .inr y13 =>
 some true
abbrev Zsd:=Spec.shp Zjd Znv Z1i
def Zc1:Ctx:=mC [(38,[],Zto),(95,[107],Zup),(112,[],Zrs),(109,[],Zsf),(113,[110],Zur),(117,[],Zs4),(114,[],Zsh),(113,[115],Zus),(118,[],Ztd)] [(0,8,pieceSpec Zhu Zgv (loop Z9k)),(0,16,pieceSpec Zhs Zgt (loop Z9g)),(0,22,pieceSpec Zht Zgu (loop Z9i))] 141 0
theorem Z1t:Sound Tryz.prog 57 (Zsd) :=
 tS Zc1 Tryz.f57 ⟨Z47,Z6b,Zb,Z1o,Z6f,Z11,Z1s,Z6h,Z3k,trivial⟩ ⟨(pL 8 Tryz.f57 Z9l),(pL 16 Tryz.f57 Z9h),(pL 22 Tryz.f57 Z9j),trivial⟩
abbrev Zix:Shape:=⟨sl_15,bl_12,[y42],0⟩
abbrev Znf:Shape:=⟨sl_1,bl_12,[.bool,y42],1⟩
def Zl (x:(T46)):Option (Bool × T46) :=
 some ((decide (x.1.1 < (0:Int))),x)
abbrev Zrx:=Spec.shp Zix Znf Zl
def Zbi:Ctx:=mC [] [] 9 1
theorem Zm:Sound Tryz.prog 165 (Zrx) :=
 tS Zbi Tryz.f165 trivial
theorem Zn:Sound Tryz.prog 165 (Spec.shpR Zix Znf Zl) :=
 Sound.shpR (fun x y h=>by have h:=Option.some.inj h; subst h; rfl) Zm
abbrev Ziw:Shape:=⟨sl_15,bl_12,[y42],0⟩
abbrev Zne:Shape:=⟨sl_1,bl_12,[.bool,y42],1⟩
def Zi (x:(T46)):Option (Bool × T46) :=
 some ((x.1.2.2.1.2.2.2 == x.1.2.2.1.1),x)
abbrev Zrw:=Spec.shp Ziw Zne Zi
def Zbh:Ctx:=mC [] [] 16 1
theorem Zj:Sound Tryz.prog 166 (Zrw) :=
 tS Zbh Tryz.f166 trivial
theorem Zk:Sound Tryz.prog 166 (Spec.shpR Ziw Zne Zi) :=
 Sound.shpR (fun x y h=>by have h:=Option.some.inj h; subst h; rfl) Zj
abbrev Zmz:Shape:=⟨[(0,(.hole y5)),(1,(.ptr 0 []))],bl_3,[y5,(.int .i64)],0⟩
abbrev Zrh:Shape:=⟨sl_1,bl_3,[.bool,(.int .i64)],1⟩
def Z8u (x:(T7 × Int)):Option T0 :=
 some ((x.1.1 != x.2),x.2)
abbrev Zvy:=Spec.shp Zmz Zrh Z8u
def Zgi:Ctx:=mC [] [] 8 1
theorem Z8v:Sound Tryz.prog 233 (Zvy) :=
 tS Zgi Tryz.f233 trivial
theorem Z8w:Sound Tryz.prog 233 (Spec.shpR Zmz Zrh Z8u) :=
 Sound.shpR (fun x y h=>by have h:=Option.some.inj h; subst h; rfl) Z8v
abbrev Zig:Shape:=⟨[(0,(.hole (.slice y5))),(1,(.fn 233 .nil (.cons (.ptr 0 []) .nil))),(7,(.hole (.int .i64))),(8,(.hole (.int .i64)))],bl_3,[(.slice y5),(.int .i64),(.int .i64),(.int .i64)],1⟩
abbrev Zhh:List (ETag × Shape):=[(.ret,⟨sl_3,bl_3,ts_5,1⟩),(.exit 0,⟨[],bl_3,ts_2,1⟩)]
def Zat (x:(List (T7) × Int × Int × Int)):Option ((List (T7) × Int × Int × Int) ⊕ ((Int × Int) ⊕ (Int))) :=
 bif (decide (x.2.2.1 < x.2.1)) then
 bif (inb x.2.2.1 (List.length x.1)) then
 (Z8u ((getAt ((0:Int),(0:Int),(0:Int)) x.1 (toN x.2.2.1)),x.2.2.2)).bind fun r18 =>
 bif r18.1 then
 some (.inr (.inl (x.2.2.1,x.2.2.2)))
 else
 some (.inl (x.1,x.2.1,(IntKind.wrap .i64 (x.2.2.1+(1:Int))),x.2.2.2))
 else
 none
 else
 some (.inr (.inr x.2.2.2))
def Zfj:Ctx:=mC [(233,[],Spec.shpR Zmz Zrh Z8u)] [] 19 1
theorem Zau:CSound Tryz.prog ⟨19,1,true⟩ (.loop (loopOf 3 Tryz.f163)) (pieceSpec Zig Zhh (loop Zat)) :=
 tL Zfj 3 Tryz.f163 ⟨Z8w,trivial⟩
abbrev Zm5:Shape:=⟨[(0,(.hole (.slice y5))),(1,(.fn 233 .nil (.cons (.ptr 0 []) .nil)))],bl_3,ts_12,0⟩
abbrev Zqn:Shape:=⟨sl_2,bl_3,ts_5,1⟩
def Z74 (x:T15):Option (Int × Int) :=
 (loop Zat (x.1,(((List.length x.1):Nat):Int),(0:Int),x.2)).bind fun r17 =>
 match r17 with
 | .inl y18 =>
 some (y18.1,y18.2)
 | .inr y18 =>
 some ((Int.negSucc 0),y18)
abbrev Zv4:=Spec.shp Zm5 Zqn Z74
def Zfi:Ctx:=mC [(233,[],Spec.shpR Zmz Zrh Z8u)] [(0,3,pieceSpec Zig Zhh (loop Zat))] 19 1
theorem Z75:Sound Tryz.prog 163 (Zv4) :=
 tS Zfi Tryz.f163 ⟨Z8w,trivial⟩ ⟨(pL 3 Tryz.f163 Zau),trivial⟩
abbrev Zmy:Shape:=⟨sl_23,[],ts_12,0⟩
abbrev Zrg:Shape:=⟨[(0,(.hole y5)),(1,(.hole (.int .i64)))],[],[y5,(.int .i64)],0⟩
def Z8t (x:T15):Option (T7 × Int) :=
 (Z90 x.1).bind fun r15 =>
 bif (Bool.not r15) then
 some (((0:Int),(0:Int),(0:Int)),(1:Int))
 else
 bif (decide (x.2 < (0:Int))) then
 some (((0:Int),(0:Int),(0:Int)),(1:Int))
 else
 (Z74 (x.1,x.2)).bind fun r16 =>
 bif (decide (r16.1 < (0:Int))) then
 some (((0:Int),(0:Int),(0:Int)),(4:Int))
 else
 bif (inb r16.1 (List.length x.1)) then
 some ((getAt ((0:Int),(0:Int),(0:Int)) x.1 (toN r16.1)),(0:Int))
 else
 none
abbrev Zvx:=Spec.shp Zmy Zrg Z8t
def Zgh:Ctx:=mC [(161,[],Zw0),(163,[233],Zv4)] [] 25 0
theorem Z8x:Sound Tryz.prog 204 (Zvx) :=
 tS Zgh Tryz.f204 ⟨Z93,Z75,trivial⟩
abbrev Ziz:Shape:=⟨[(0,(.ptr 0 [])),(1,(.hole (.slice y5)))],bl_12,[(.slice y5),y42],0⟩
abbrev Znh:Shape:=⟨sl_17,bl_12,[y5,y42],1⟩
def Zq (x:(List (T7) × T46)):Option (T7 × T46) :=
 (Z8t (x.1,x.2.2)).bind fun r14 =>
 bif (r14.2 != (0:Int)) then
 bif ((r14.1.1 == ((0:Int),(0:Int),(0:Int)).1) && ((r14.1.2.1 == ((0:Int),(0:Int),(0:Int)).2.1) && (r14.1.2.2 == ((0:Int),(0:Int),(0:Int)).2.2))) then
 some (((Int.negSucc 0),(0:Int),(0:Int)),x.2)
 else
 some (r14.1,x.2)
 else
 some (r14.1,x.2)
abbrev Zrz:=Spec.shp Ziz Znh Zq
def Zbk:Ctx:=mC [(204,[],Zvx)] [] 27 1
theorem Zr:Sound Tryz.prog 167 (Zrz) :=
 tS Zbk Tryz.f167 ⟨Z8x,trivial⟩
abbrev Ziq:Shape:=⟨[(0,(.hole y40)),(1,(.hole .bool)),(2,(.hole (.int .i64)))],[],[y40,.bool,(.int .i64)],0⟩
abbrev Zn8:Shape:=⟨[(0,(.hole .bool)),(1,(.hole (.int .i64)))],[],[.bool,(.int .i64)],0⟩
def Z6 (x:((Int × T40) × Bool × Int)):Option T0 :=
 (Za x.1).bind fun r10 =>
 bif (Bool.not r10) then
 some (false,(1:Int))
 else
 bif (decide (x.2.2 < (0:Int))) then
 some (false,(1:Int))
 else
 (Zl (x.1,x.2.2)).bind fun r11 =>
 bif r11.1 then
 some (false,(0:Int))
 else
 bif x.1.2.1 then
 some (true,(0:Int))
 else
 bif x.2.1 then
 (Zi (x.1,x.2.2)).bind fun r12 =>
 bif (Bool.not r12.1) then
 some (true,(0:Int))
 else
 (Zq (x.1.2.2.2.2.2.2,x.1,x.2.2)).bind fun r13 =>
 some ((r13.1.1 != (Int.negSucc 0)),(0:Int))
 else
 bif (decide (x.1.2.2.1.2.2.2 > (0:Int))) then
 some (true,(0:Int))
 else
 (Zq (x.1.2.2.2.2.2.1,x.1,x.2.2)).bind fun r12 =>
 some ((r12.1.1 != (Int.negSucc 0)),(0:Int))
abbrev Zrq:=Spec.shp Ziq Zn8 Z6
def Zba:Ctx:=mC [(112,[],Zrs),(165,[],Spec.shpR Zix Znf Zl),(166,[],Spec.shpR Ziw Zne Zi),(167,[],Zrz)] [] 63 0
theorem Z7:Sound Tryz.prog 119 (Zrq) :=
 tS Zba Tryz.f119 ⟨Zb,Zn,Zk,Zr,trivial⟩
abbrev Zhr:Shape:=⟨[(1,(.hole (.int .i64))),(2,(.ptr 0 [])),(7,(.sl 1)),(38,(.hole (.slice y2))),(39,(.hole (.int .i64))),(40,(.hole (.int .i64)))],bl_13,ts_13,0⟩
abbrev Zgs:List (ETag × Shape):=[(.exit 0,⟨[(7,(.sl 0))],[.row y4],[(.slice y4)],0⟩)]
def Z9e (x:T68):Option (T68 ⊕ (T6)) :=
 bif (decide (x.2.2.2.1 < x.2.2.1)) then
 bif (inb x.2.2.2.1 (List.length x.2.1)) then
 bif (inb (getAt (false,(0:Int)) x.2.1 (toN x.2.2.2.1)).2 (List.length x.2.2.2.2.1.2.2.1)) then
 (Z6 ((getAt ((0:Int),false,((0:Int),(0:Int),([]:List Int),(0:Int)),(0:Int),(0:Int),([]:List T7),([]:List T7)) x.2.2.2.2.1.2.2.1 (toN (getAt (false,(0:Int)) x.2.1 (toN x.2.2.2.1)).2)),(getAt (false,(0:Int)) x.2.1 (toN x.2.2.2.1)).1,x.1)).bind fun r9 =>
 bif r9.1 then
 bif (fits ((List.length x.2.2.2.2.2)+(List.length ((x.1,x.2.2.2.1) :: ([]:List (Int × Int)))))) then
 some (.inl (x.1,x.2.1,x.2.2.1,(IntKind.wrap .i64 (x.2.2.2.1+(1:Int))),x.2.2.2.2.1,(x.2.2.2.2.2++((x.1,x.2.2.2.1) :: ([]:List (Int × Int))))))
 else
 none
 else
 some (.inl (x.1,x.2.1,x.2.2.1,(IntKind.wrap .i64 (x.2.2.2.1+(1:Int))),x.2.2.2.2.1,x.2.2.2.2.2))
 else
 none
 else
 none
 else
 some (.inr x.2.2.2.2.2)
def Zc0:Ctx:=mC [(119,[],Zrq)] [] 67 0
theorem Z9f:CSound Tryz.prog ⟨67,0,true⟩ (.loop (loopOf 8 Tryz.f58)) (pieceSpec Zhr Zgs (loop Z9e)) :=
 tL Zc0 8 Tryz.f58 ⟨Z7,trivial⟩
abbrev Zjc:Shape:=⟨[(0,(.hole y45)),(1,(.hole (.int .i64)))],[],[y45,(.int .i64)],0⟩
abbrev Znu:Shape:=⟨[(0,(.hole (.slice y4)))],[],[(.slice y4)],0⟩
def Z1g (x:((T47 × T61) × Int)):Option T6 :=
 bif (inb x.2 (List.length x.1.2.1)) then
 bif (inb (getAt ((0:Int),(0:Int),(0:Int),false) x.1.2.1 (toN x.2)).1 (List.length x.1.1.2.2.2.2.2)) then
 bif (inb (getAt ((0:Int),(0:Int),(0:Int),false) x.1.2.1 (toN x.2)).2.1 (List.length (getAt ([]:List T7) x.1.1.2.2.2.2.2 (toN (getAt ((0:Int),(0:Int),(0:Int),false) x.1.2.1 (toN x.2)).1)))) then
 bif ((getAt ((0:Int),(0:Int),(0:Int)) (getAt ([]:List T7) x.1.1.2.2.2.2.2 (toN (getAt ((0:Int),(0:Int),(0:Int),false) x.1.2.1 (toN x.2)).1)) (toN (getAt ((0:Int),(0:Int),(0:Int),false) x.1.2.1 (toN x.2)).2.1)).1 != (4:Int)) then
 some ([]:List (Int × Int))
 else
 bif (inb (getAt ((0:Int),(0:Int),(0:Int)) (getAt ([]:List T7) x.1.1.2.2.2.2.2 (toN (getAt ((0:Int),(0:Int),(0:Int),false) x.1.2.1 (toN x.2)).1)) (toN (getAt ((0:Int),(0:Int),(0:Int),false) x.1.2.1 (toN x.2)).2.1)).2.1 (List.length x.1.1.2.2.2.2.1)) then
 (loop Z9e (x.2,(getAt (([]:List T0),false) x.1.1.2.2.2.2.1 (toN (getAt ((0:Int),(0:Int),(0:Int)) (getAt ([]:List T7) x.1.1.2.2.2.2.2 (toN (getAt ((0:Int),(0:Int),(0:Int),false) x.1.2.1 (toN x.2)).1)) (toN (getAt ((0:Int),(0:Int),(0:Int),false) x.1.2.1 (toN x.2)).2.1)).2.1)).1,(((List.length (getAt (([]:List T0),false) x.1.1.2.2.2.2.1 (toN (getAt ((0:Int),(0:Int),(0:Int)) (getAt ([]:List T7) x.1.1.2.2.2.2.2 (toN (getAt ((0:Int),(0:Int),(0:Int),false) x.1.2.1 (toN x.2)).1)) (toN (getAt ((0:Int),(0:Int),(0:Int),false) x.1.2.1 (toN x.2)).2.1)).2.1)).1):Nat):Int),(0:Int),x.1,([]:List (Int × Int)))).bind fun r8 =>
 some r8
 else
 none
 else
 none
 else
 none
 else
 none
abbrev Zsc:=Spec.shp Zjc Znu Z1g
def Zbz:Ctx:=mC [(119,[],Zrq)] [(0,8,pieceSpec Zhr Zgs (loop Z9e))] 67 0
theorem Z1h:Sound Tryz.prog 58 (Zsc) :=
 tS Zbz Tryz.f58 ⟨Z7,trivial⟩ ⟨(pL 8 Tryz.f58 Z9f),trivial⟩
abbrev Zhp:Shape:=⟨[(1,(.ptr 0 [])),(3,(.sl 1)),(16,(.hole y18)),(17,(.hole (.int .i64))),(18,(.hole (.int .i64)))],bl_13,[y18,(.int .i64),(.int .i64),y45,(.slice y4)],0⟩
abbrev Zgq:List (ETag × Shape):=[(.exit 0,⟨[(3,(.sl 0))],[.row y4],[(.slice y4)],0⟩)]
def Z9a (x:T67):Option (T67 ⊕ (T6)) :=
 bif (decide (x.2.2.1 < x.2.1)) then
 bif (inb x.2.2.1 (List.length x.1)) then
 bif ((getAt ((0:Int),(0:Int),(0:Int),false) x.1 (toN x.2.2.1)).2.2.1 != (0:Int)) then
 some (.inl (x.1,x.2.1,(IntKind.wrap .i64 (x.2.2.1+(1:Int))),x.2.2.2.1,x.2.2.2.2))
 else
 (Z1g (x.2.2.2.1,x.2.2.1)).bind fun r7 =>
 bif ((((List.length r7):Nat):Int) == (0:Int)) then
 bif (fits ((List.length x.2.2.2.2)+(List.length ((x.2.2.1,(Int.negSucc 0)) :: ([]:List (Int × Int)))))) then
 some (.inl (x.1,x.2.1,(IntKind.wrap .i64 (x.2.2.1+(1:Int))),x.2.2.2.1,(x.2.2.2.2++((x.2.2.1,(Int.negSucc 0)) :: ([]:List (Int × Int))))))
 else
 none
 else
 bif (fits ((List.length x.2.2.2.2)+(List.length r7))) then
 some (.inl (x.1,x.2.1,(IntKind.wrap .i64 (x.2.2.1+(1:Int))),x.2.2.2.1,(x.2.2.2.2++r7)))
 else
 none
 else
 none
 else
 some (.inr x.2.2.2.2)
def Zbt:Ctx:=mC [(57,[],Zsd),(58,[],Zsc)] [] 40 0
theorem Z9b:CSound Tryz.prog ⟨40,0,true⟩ (.loop (loopOf 6 Tryz.f22)) (pieceSpec Zhp Zgq (loop Z9a)) :=
 tL Zbt 6 Tryz.f22 ⟨Z1t,Z1h,trivial⟩
abbrev Zj7:Shape:=⟨[(0,(.hole y45))],[],[y45],0⟩
abbrev Znp:Shape:=⟨[(0,(.hole (.slice y4)))],[],[(.slice y4)],0⟩
def Z16 (x:T62):Option T6 :=
 (Z1i x).bind fun r5 =>
 bif (Bool.not r5) then
 some ([]:List (Int × Int))
 else
 bif (x.2.2.2.2.2.2 != (0:Int)) then
 some ([]:List (Int × Int))
 else
 (loop Z9a (x.2.1,(((List.length x.2.1):Nat):Int),(0:Int),x,([]:List (Int × Int)))).bind fun r6 =>
 some r6
abbrev Zs7:=Spec.shp Zj7 Znp Z16
def Zbs:Ctx:=mC [(57,[],Zsd),(58,[],Zsc)] [(0,6,pieceSpec Zhp Zgq (loop Z9a))] 40 0
theorem Z17:Sound Tryz.prog 22 (Zs7) :=
 tS Zbs Tryz.f22 ⟨Z1t,Z1h,trivial⟩ ⟨(pL 6 Tryz.f22 Z9b),trivial⟩
abbrev Zik:Shape:=⟨[(0,(.hole (.slice y4))),(3,(.ptr 0 [])),(7,(.hole (.int .i64))),(8,(.hole (.int .i64)))],[.var (.hole y4)],[(.slice y4),(.int .i64),(.int .i64),y4],0⟩
abbrev Zhl:List (ETag × Shape):=[(.ret,⟨sl_3,[],ts_2,0⟩),(.exit 0,⟨[],[],[],0⟩)]
def Zb1 (x:T11):Option (T11 ⊕ ((Int) ⊕ Unit)) :=
 bif (decide (x.2.2.1 < x.2.1)) then
 bif (inb x.2.2.1 (List.length x.1)) then
 bif ((x.2.2.2.1 == (getAt ((0:Int),(0:Int)) x.1 (toN x.2.2.1)).1) && (x.2.2.2.2 == (getAt ((0:Int),(0:Int)) x.1 (toN x.2.2.1)).2)) then
 some (.inr (.inl x.2.2.1))
 else
 some (.inl (x.1,x.2.1,(IntKind.wrap .i64 (x.2.2.1+(1:Int))),x.2.2.2))
 else
 none
 else
 some (.inr (.inr ()))
def Zfr:Ctx:=mC [] [] 19 0
theorem Zb2:CSound Tryz.prog ⟨19,0,true⟩ (.loop (loopOf 3 Tryz.f84)) (pieceSpec Zik Zhl (loop Zb1)) :=
 tL Zfr 3 Tryz.f84 trivial
abbrev Zm9:Shape:=⟨sl_24,[],[(.slice y4),y4],0⟩
abbrev Zqr:Shape:=⟨sl_2,[],ts_2,0⟩
def Z7c (x:(List (Int × Int) × (Int × Int))):Option (Int) :=
 (loop Zb1 (x.1,(((List.length x.1):Nat):Int),(0:Int),x.2)).bind fun r9 =>
 match r9 with
 | .inl y10 =>
 some y10
 | .inr y10 =>
 some (Int.negSucc 0)
abbrev Zv8:=Spec.shp Zm9 Zqr Z7c
def Zfq:Ctx:=mC [] [(0,3,pieceSpec Zik Zhl (loop Zb1))] 19 0
theorem Z7d:Sound Tryz.prog 84 (Zv8) :=
 tS Zfq Tryz.f84 trivial ⟨(pL 3 Tryz.f84 Zb2),trivial⟩
abbrev Zlx:Shape:=⟨sl_24,[],[(.slice y4),y4],0⟩
abbrev Zqf:Shape:=⟨sl_1,[],ts_1,0⟩
def Z6o (x:(List (Int × Int) × (Int × Int))):Option (Bool) :=
 (Z7c (x.1,x.2)).bind fun r8 =>
 some (decide (r8 ≥ (0:Int)))
abbrev Zuw:=Spec.shp Zlx Zqf Z6o
def Zf3:Ctx:=mC [(84,[],Zv8)] [] 9 0
theorem Z6p:Sound Tryz.prog 59 (Zuw) :=
 tS Zf3 Tryz.f59 ⟨Z7d,trivial⟩
abbrev Zlk:Shape:=⟨[(0,(.hole y18))],[],[y18],0⟩
abbrev Zq2:Shape:=⟨[(0,(.sl 0))],[.row y12],[y18],0⟩
def Z5y (x:(List (T17))):Option (List (T17)) :=
 bif (@Nat.beq (List.length x) (0:Nat)) then
 amb (
 some ([]:List T17)) (
 bif (fits ((List.length ([]:List T17))+(List.length x))) then
 some (([]:List T17)++x)
 else
 none)
 else
 bif (fits ((List.length ([]:List T17))+(List.length x))) then
 some (([]:List T17)++x)
 else
 none
abbrev Zuj:=Spec.shp Zlk Zq2 Z5y
def Zeq:Ctx:=mC [] [] 8 0
theorem Z5z:Sound Tryz.prog 60 (Zuj) :=
 tS Zeq Tryz.f60 trivial
abbrev Zli:Shape:=⟨[(0,(.hole y41))],[],[y41],0⟩
abbrev Zq0:Shape:=⟨[(0,(.sl 0))],[.row y40],[y41],0⟩
def Z5u (x:(List T43)):Option (List T43) :=
 bif (@Nat.beq (List.length x) (0:Nat)) then
 amb (
 some ([]:List (Int × T41))) (
 bif (fits ((List.length ([]:List (Int × T41)))+(List.length x))) then
 some (([]:List (Int × T41))++x)
 else
 none)
 else
 bif (fits ((List.length ([]:List (Int × T41)))+(List.length x))) then
 some (([]:List (Int × T41))++x)
 else
 none
abbrev Zuh:=Spec.shp Zli Zq0 Z5u
def Zeo:Ctx:=mC [] [] 8 0
theorem Z5v:Sound Tryz.prog 61 (Zuh) :=
 tS Zeo Tryz.f61 trivial
abbrev Zll:Shape:=⟨[(0,(.hole y19))],[],[y19],0⟩
abbrev Zq3:Shape:=⟨[(0,(.sl 0))],[.row y15],[y19],0⟩
def Z60 (x:(List (T18))):Option (List (T18)) :=
 bif (@Nat.beq (List.length x) (0:Nat)) then
 amb (
 some ([]:List T22)) (
 bif (fits ((List.length ([]:List T22))+(List.length x))) then
 some (([]:List T22)++x)
 else
 none)
 else
 bif (fits ((List.length ([]:List T22))+(List.length x))) then
 some (([]:List T22)++x)
 else
 none
abbrev Zuk:=Spec.shp Zll Zq3 Z60
def Zer:Ctx:=mC [] [] 8 0
theorem Z61:Sound Tryz.prog 62 (Zuk) :=
 tS Zer Tryz.f62 trivial
abbrev Zlm:Shape:=⟨[(0,(.hole y26))],[],[y26],0⟩
abbrev Zq4:Shape:=⟨[(0,(.sl 0))],[.row y23],[y26],0⟩
def Z62 (x:(List T29)):Option (List T29) :=
 bif (@Nat.beq (List.length x) (0:Nat)) then
 amb (
 some ([]:List (Int × T14))) (
 bif (fits ((List.length ([]:List (Int × T14)))+(List.length x))) then
 some (([]:List (Int × T14))++x)
 else
 none)
 else
 bif (fits ((List.length ([]:List (Int × T14)))+(List.length x))) then
 some (([]:List (Int × T14))++x)
 else
 none
abbrev Zul:=Spec.shp Zlm Zq4 Z62
def Zes:Ctx:=mC [] [] 8 0
theorem Z63:Sound Tryz.prog 63 (Zul) :=
 tS Zes Tryz.f63 trivial
abbrev Zjp:Shape:=⟨sl_25,bl_2,ts_10,0⟩
abbrev Zo7:Shape:=⟨sl_17,bl_2,[y5,y39,y4,y18,y41,y19,y26,y27],1⟩
def Z26 (x:T58):Option (T7 × T47 × (Int × Int) × List (T17) × List T43 × List (T18) × List T29 × List (T20)) :=
 bif (inb x.1 (List.length x.2.2.2.1)) then
 bif (inb (getAt ((0:Int),(0:Int),(0:Int),false) x.2.2.2.1 (toN x.1)).1 (List.length x.2.1.2.2.2.2.2)) then
 bif (inb (getAt ((0:Int),(0:Int),(0:Int),false) x.2.2.2.1 (toN x.1)).2.1 (List.length (getAt ([]:List T7) x.2.1.2.2.2.2.2 (toN (getAt ((0:Int),(0:Int),(0:Int),false) x.2.2.2.1 (toN x.1)).1)))) then
 some ((getAt ((0:Int),(0:Int),(0:Int)) (getAt ([]:List T7) x.2.1.2.2.2.2.2 (toN (getAt ((0:Int),(0:Int),(0:Int),false) x.2.2.2.1 (toN x.1)).1)) (toN (getAt ((0:Int),(0:Int),(0:Int),false) x.2.2.2.1 (toN x.1)).2.1)),x.2.1,x.2.2.1,x.2.2.2.1,x.2.2.2.2.1,x.2.2.2.2.2.1,x.2.2.2.2.2.2.1,x.2.2.2.2.2.2.2)
 else
 none
 else
 none
 else
 none
abbrev Zsp:=Spec.shp Zjp Zo7 Z26
def Zci:Ctx:=mC [] [] 28 1
theorem Z27:Sound Tryz.prog 78 (Zsp) :=
 tS Zci Tryz.f78 trivial
abbrev Zjn:Shape:=⟨sl_25,bl_2,ts_10,0⟩
abbrev Zo5:Shape:=⟨[],bl_2,ts_11,1⟩
def Z22 (x:T58):Option T57 :=
 bif (inb x.1 (List.length x.2.2.2.1)) then
 (Z24 (x.1,(IntKind.wrap .i64 ((getAt ((0:Int),(0:Int),(0:Int),false) x.2.2.2.1 (toN x.1)).2.1+(1:Int))),x.2.1,x.2.2.1,x.2.2.2.1,x.2.2.2.2.1,x.2.2.2.2.2.1,x.2.2.2.2.2.2.1,x.2.2.2.2.2.2.2)).bind fun r15 =>
 some (r15.1,r15.2.1,r15.2.2.1,r15.2.2.2.1,r15.2.2.2.2.1,r15.2.2.2.2.2.1,r15.2.2.2.2.2.2)
 else
 none
abbrev Zsn:=Spec.shp Zjn Zo5 Z22
def Zcg:Ctx:=mC [(41,[],Zso)] [] 17 1
theorem Z23:Sound Tryz.prog 120 (Zsn) :=
 tS Zcg Tryz.f120 ⟨Z25,trivial⟩
abbrev Zjt:Shape:=⟨sl_26,bl_2,ts_14,0⟩
abbrev Zob:Shape:=⟨[],bl_2,ts_11,1⟩
def Z2e (x:T60):Option T57 :=
 (Z22 (x.1.1,x.2.2.1,x.2.2.2.1,x.2.2.2.2.1,x.2.2.2.2.2.1,x.2.2.2.2.2.2.1,x.2.2.2.2.2.2.2.1,x.2.2.2.2.2.2.2.2)).bind fun r14 =>
 some (r14.1,r14.2.1,r14.2.2.1,r14.2.2.2.1,r14.2.2.2.2.1,r14.2.2.2.2.2.1,r14.2.2.2.2.2.2)
abbrev Zst:=Spec.shp Zjt Zob Z2e
def Zcm:Ctx:=mC [(120,[],Zsn)] [] 10 1
theorem Z2f:Sound Tryz.prog 64 (Zst) :=
 tS Zcm Tryz.f64 ⟨Z23,trivial⟩
abbrev Ziu:Shape:=⟨sl_17,[],[y5],0⟩
abbrev Znc:Shape:=⟨sl_1,[],ts_1,0⟩
def Ze (x:(T7)):Option (Bool) :=
 bif (decide (x.1 ≥ (0:Int))) then
 bif (decide (x.2.1 ≥ (0:Int))) then
 some (decide (x.2.2 ≥ (0:Int)))
 else
 some false
 else
 some false
abbrev Zru:=Spec.shp Ziu Znc Ze
def Zbe:Ctx:=mC [] [] 16 0
theorem Zf:Sound Tryz.prog 206 (Zru) :=
 tS Zbe Tryz.f206 trivial
abbrev Ziy:Shape:=⟨sl_25,bl_12,[(.int .i64),y42],0⟩
abbrev Zng:Shape:=⟨[],bl_12,[y42],1⟩
def Zo (x:(Int × T46)):Option (T46) :=
 (Z8o (x.2.1.2.2.2.2.2.1,x.1)).bind fun r23 =>
 (Z8o (x.2.1.2.2.2.2.2.2,x.1)).bind fun r24 =>
 some ((x.2.1.1,x.2.1.2.1,x.2.1.2.2.1,x.2.1.2.2.2.1,x.2.1.2.2.2.2.1,r23.1,r24.1),x.2.2)
abbrev Zry:=Spec.shp Ziy Zng Zo
def Zbj:Ctx:=mC [(164,[],Zvv)] [] 32 1
theorem Zp:Sound Tryz.prog 205 (Zry) :=
 tS Zbj Tryz.f205 ⟨Z8s,trivial⟩
abbrev Zj0:Shape:=⟨sl_15,bl_12,[y42],0⟩
abbrev Zni:Shape:=⟨sl_2,bl_12,[(.int .i64),y42],1⟩
def Zs (x:(T46)):Option (Int × T46) :=
 some (x.1.2.2.2.1,(x.1.1,x.1.2.1,x.1.2.2.1,(IntKind.wrap .i64 (x.1.2.2.2.1+(1:Int))),(IntKind.wrap .i64 (x.1.2.2.2.2.1+(1:Int))),x.1.2.2.2.2.2),x.2)
abbrev Zs0:=Spec.shp Zj0 Zni Zs
def Zbl:Ctx:=mC [] [] 28 1
theorem Zt:Sound Tryz.prog 209 (Zs0) :=
 tS Zbl Tryz.f209 trivial
abbrev Zlo:Shape:=⟨[(0,(.hole y0))],[],[y0],0⟩
abbrev Zq6:Shape:=⟨[(0,(.sl 0))],bl_14,[y0],0⟩
def Z66 (x:(List Int)):Option (List Int) :=
 bif (@Nat.beq (List.length x) (0:Nat)) then
 amb (
 some ([]:List Int)) (
 bif (fits ((List.length ([]:List Int))+(List.length x))) then
 some (([]:List Int)++x)
 else
 none)
 else
 bif (fits ((List.length ([]:List Int))+(List.length x))) then
 some (([]:List Int)++x)
 else
 none
abbrev Zun:=Spec.shp Zlo Zq6 Z66
def Zeu:Ctx:=mC [] [] 8 0
theorem Z67:Sound Tryz.prog 238 (Zun) :=
 tS Zeu Tryz.f238 trivial
abbrev Zld:Shape:=⟨[(0,(.one (.pr (.hole (.int .i64)) (.pr (.hole (.int .i64)) (.pr (.sl 0) (.hole (.int .i64))))))),(1,(.hole (.int .i64)))],bl_14,[(.int .i64),(.int .i64),(.int .i64),(.int .i64),y0],0⟩
abbrev Zpv:Shape:=⟨sl_2,bl_14,[(.int .i64),y0],1⟩
def Z5j (x:(Int × Int × Int × Int × List Int)):Option T3 :=
 bif (x.1 != (0:Int)) then
 some ((Int.tmod (IntKind.wrap .i64 (x.2.1+x.2.2.2.1)) x.1),x.2.2.2.2)
 else
 none
abbrev Zuc:=Spec.shp Zld Zpv Z5j
def Zei:Ctx:=mC [] [] 14 1
theorem Z5k:Sound Tryz.prog 232 (Zuc) :=
 tS Zei Tryz.f232 trivial
abbrev Zl8:Shape:=⟨sl_12,[],[y21,(.int .i64)],0⟩
abbrev Zpq:Shape:=⟨sl_12,[],[y21,(.int .i64)],0⟩
def Z5a (x:(T16 × Int)):Option (T16 × Int) :=
 (Z5c x.1).bind fun r25 =>
 bif (Bool.not r25) then
 some (((0:Int),(0:Int),([]:List Int),(0:Int)),(1:Int))
 else
 bif (x.1.2.2.2 == x.1.1) then
 some (((0:Int),(0:Int),([]:List Int),(0:Int)),(5:Int))
 else
 (Z66 x.1.2.2.1).bind fun r26 =>
 (Z5j (x.1.1,x.1.2.1,x.1.2.2.2,x.1.2.2.2,r26)).bind fun r27 =>
 bif (inb r27.1 (List.length r27.2)) then
 some ((x.1.1,x.1.2.1,(List.set r27.2 (toN r27.1) x.2),(IntKind.wrap .i64 (x.1.2.2.2+(1:Int)))),(0:Int))
 else
 none
abbrev Zu7:=Spec.shp Zl8 Zpq Z5a
def Zec:Ctx:=mC [(196,[],Zu8),(238,[],Zun),(232,[2000000],Zuc)] [] 38 0
theorem Z5b:Sound Tryz.prog 235 (Zu7) :=
 tS Zec Tryz.f235 ⟨Z5d,Z67,Z5k,trivial⟩
abbrev Zj2:Shape:=⟨sl_15,bl_12,[y42],0⟩
abbrev Znk:Shape:=⟨sl_2,bl_12,[(.int .i64),y42],1⟩
def Zw (x:(T46)):Option (Int × T46) :=
 (Z5a (x.1.2.2.1,x.1.2.2.2.1)).bind fun r24 =>
 some (x.1.2.2.2.1,(x.1.1,x.1.2.1,r24.1,(IntKind.wrap .i64 (x.1.2.2.2.1+(1:Int))),x.1.2.2.2.2),x.2)
abbrev Zs2:=Spec.shp Zj2 Znk Zw
def Zbn:Ctx:=mC [(235,[],Zu7)] [] 33 1
theorem Zx:Sound Tryz.prog 208 (Zs2) :=
 tS Zbn Tryz.f208 ⟨Z5b,trivial⟩
abbrev Zn0:Shape:=⟨[(0,(.hole (.slice y5))),(1,(.hole y5))],[],[(.slice y5),y5],0⟩
abbrev Zri:Shape:=⟨sl_23,[],ts_12,0⟩
def Z8y (x:(List (T7) × T7)):Option T15 :=
 (Z90 x.1).bind fun r24 =>
 bif (Bool.not r24) then
 some (([]:List T7),(1:Int))
 else
 (Z94 x.2).bind fun r25 =>
 bif (Bool.not r25) then
 some (([]:List T7),(1:Int))
 else
 (Z96 x.1).bind fun r26 =>
 bif (decide ((@mlook (Int × Int) (Int) (Ty.beq y4) (Ty.zero (.int .i64)) (x.2.1,x.2.2.1) r26) > (0:Int))) then
 some (([]:List T7),(7:Int))
 else
 bif ((((List.length x.1):Nat):Int) == (64:Int)) then
 some (([]:List T7),(5:Int))
 else
 (Z64 x.1).bind fun r27 =>
 bif (fits ((List.length r27)+(List.length (x.2 :: ([]:List T7))))) then
 some ((r27++(x.2 :: ([]:List T7))),(0:Int))
 else
 none
abbrev Zvz:=Spec.shp Zn0 Zri Z8y
def Zgj:Ctx:=mC [(161,[],Zw0),(199,[],Zw2),(200,[],Zw3),(202,[],Zum)] [] 34 0
theorem Z8z:Sound Tryz.prog 171 (Zvz) :=
 tS Zgj Tryz.f171 ⟨Z93,Z95,Z97,Z65,trivial⟩
end
end Go.Proofs.YthdlpkdojipfhaaGreat.VX.VxM_M
set_option maxRecDepth 100000
namespace Go.Proofs.YthdlpkdojipfhaaGreat.VX.VxM_M
open Go.Proofs Go.Proofs.YthdlpkdojipfhaaGreat.VX.T2
noncomputable section
abbrev Zit:Shape:=⟨sl_27,[],[y40,y5],0⟩
abbrev Znb:Shape:=⟨sl_28,[],[y40,y30,(.int .i64)],0⟩
def Zc (x:T45):Option T48 :=
 (Za x.1).bind fun r18 =>
 bif (Bool.not r18) then
 some (((0:Int),false,((0:Int),(0:Int),([]:List Int),(0:Int)),(0:Int),(0:Int),([]:List T7),([]:List T7)),((0:Int),(0:Int),((0:Int),(0:Int),(0:Int)),(0:Int)),(1:Int))
 else
 (Ze x.2).bind fun r19 =>
 bif (Bool.not r19) then
 some (((0:Int),false,((0:Int),(0:Int),([]:List Int),(0:Int)),(0:Int),(0:Int),([]:List T7),([]:List T7)),((0:Int),(0:Int),((0:Int),(0:Int),(0:Int)),(0:Int)),(1:Int))
 else
 (Zq (x.1.2.2.2.2.2.2,x.1,x.2.1)).bind fun r20 =>
 (Zl r20.2).bind fun r21 =>
 bif r21.1 then
 some (x.1,((0:Int),(0:Int),((Int.negSucc 0),(0:Int),(0:Int)),(0:Int)),(0:Int))
 else
 bif r20.2.1.2.1 then
 some (x.1,((3:Int),(0:Int),((Int.negSucc 0),(0:Int),(0:Int)),(0:Int)),(0:Int))
 else
 bif (r20.1.1 != (Int.negSucc 0)) then
 bif (r20.2.1.2.2.2.1 == (1048576:Int)) then
 some (((0:Int),false,((0:Int),(0:Int),([]:List Int),(0:Int)),(0:Int),(0:Int),([]:List T7),([]:List T7)),((0:Int),(0:Int),((0:Int),(0:Int),(0:Int)),(0:Int)),(5:Int))
 else
 bif (r20.1.1 != (Int.negSucc 0)) then
 (Zo (r20.1.1,r20.2)).bind fun r22 =>
 (Zs r22).bind fun r23 =>
 some (r23.2.1,((1:Int),r23.1,r20.1,r23.1),(0:Int))
 else
 (Zi r20.2).bind fun r22 =>
 bif (Bool.not r22.1) then
 (Zw r20.2).bind fun r23 =>
 some (r23.2.1,((1:Int),r23.1,r20.1,(0:Int)),(0:Int))
 else
 (Z8y (r20.2.1.2.2.2.2.2.1,x.2)).bind fun r23 =>
 bif (r23.2 != (0:Int)) then
 some (((0:Int),false,((0:Int),(0:Int),([]:List Int),(0:Int)),(0:Int),(0:Int),([]:List T7),([]:List T7)),((0:Int),(0:Int),((0:Int),(0:Int),(0:Int)),(0:Int)),r23.2)
 else
 some ((r20.2.1.1,r20.2.1.2.1,r20.2.1.2.2.1,r20.2.1.2.2.2.1,r20.2.1.2.2.2.2.1,r23.1,r20.2.1.2.2.2.2.2.2),((0:Int),(0:Int),r20.1,(0:Int)),(0:Int))
 else
 (Zi r20.2).bind fun r22 =>
 bif (Bool.not r22.1) then
 bif (r20.2.1.2.2.2.1 == (1048576:Int)) then
 some (((0:Int),false,((0:Int),(0:Int),([]:List Int),(0:Int)),(0:Int),(0:Int),([]:List T7),([]:List T7)),((0:Int),(0:Int),((0:Int),(0:Int),(0:Int)),(0:Int)),(5:Int))
 else
 bif (r20.1.1 != (Int.negSucc 0)) then
 (Zo (r20.1.1,r20.2)).bind fun r23 =>
 (Zs r23).bind fun r24 =>
 some (r24.2.1,((1:Int),r24.1,r20.1,r24.1),(0:Int))
 else
 (Zi r20.2).bind fun r23 =>
 bif (Bool.not r23.1) then
 (Zw r20.2).bind fun r24 =>
 some (r24.2.1,((1:Int),r24.1,r20.1,(0:Int)),(0:Int))
 else
 (Z8y (r20.2.1.2.2.2.2.2.1,x.2)).bind fun r24 =>
 bif (r24.2 != (0:Int)) then
 some (((0:Int),false,((0:Int),(0:Int),([]:List Int),(0:Int)),(0:Int),(0:Int),([]:List T7),([]:List T7)),((0:Int),(0:Int),((0:Int),(0:Int),(0:Int)),(0:Int)),r24.2)
 else
 some ((r20.2.1.1,r20.2.1.2.1,r20.2.1.2.2.1,r20.2.1.2.2.2.1,r20.2.1.2.2.2.2.1,r24.1,r20.2.1.2.2.2.2.2.2),((0:Int),(0:Int),r20.1,(0:Int)),(0:Int))
 else
 bif (r20.1.1 != (Int.negSucc 0)) then
 (Zo (r20.1.1,r20.2)).bind fun r23 =>
 (Zs r23).bind fun r24 =>
 some (r24.2.1,((1:Int),r24.1,r20.1,r24.1),(0:Int))
 else
 (Zi r20.2).bind fun r23 =>
 bif (Bool.not r23.1) then
 (Zw r20.2).bind fun r24 =>
 some (r24.2.1,((1:Int),r24.1,r20.1,(0:Int)),(0:Int))
 else
 (Z8y (r20.2.1.2.2.2.2.2.1,x.2)).bind fun r24 =>
 bif (r24.2 != (0:Int)) then
 some (((0:Int),false,((0:Int),(0:Int),([]:List Int),(0:Int)),(0:Int),(0:Int),([]:List T7),([]:List T7)),((0:Int),(0:Int),((0:Int),(0:Int),(0:Int)),(0:Int)),r24.2)
 else
 some ((r20.2.1.1,r20.2.1.2.1,r20.2.1.2.2.1,r20.2.1.2.2.2.1,r20.2.1.2.2.2.2.1,r24.1,r20.2.1.2.2.2.2.2.2),((0:Int),(0:Int),r20.1,(0:Int)),(0:Int))
abbrev Zrt:=Spec.shp Zit Znb Zc
def Zbd:Ctx:=mC [(112,[],Zrs),(206,[],Zru),(167,[],Zrz),(165,[],Spec.shpR Zix Znf Zl),(205,[],Zry),(209,[],Zs0),(166,[],Spec.shpR Ziw Zne Zi),(208,[],Zs2),(171,[],Zvz)] [] 128 0
theorem Zd:Sound Tryz.prog 170 (Zrt) :=
 tS Zbd Tryz.f170 ⟨Zb,Zf,Zr,Zn,Zp,Zt,Zk,Zx,Z8z,trivial⟩
abbrev Zl7:Shape:=⟨[(0,(.hole y21))],[],[y21],0⟩
abbrev Zpp:Shape:=⟨[(0,(.hole y21)),(1,(.hole (.int .i64))),(2,(.hole (.int .i64)))],[],[y21,(.int .i64),(.int .i64)],0⟩
def Z58 (x:(T16)):Option (T16 × Int × Int) :=
 (Z5c x).bind fun r25 =>
 bif (Bool.not r25) then
 some (((0:Int),(0:Int),([]:List Int),(0:Int)),(0:Int),(1:Int))
 else
 bif (x.2.2.2 == (0:Int)) then
 some (((0:Int),(0:Int),([]:List Int),(0:Int)),(0:Int),(4:Int))
 else
 (Z5i (x,(0:Int))).bind fun r26 =>
 bif (inb r26 (List.length x.2.2.1)) then
 (Z5i (x,(1:Int))).bind fun r27 =>
 some ((x.1,r27,x.2.2.1,(IntKind.wrap .i64 (x.2.2.2 - (1:Int)))),(getAt (0:Int) x.2.2.1 (toN r26)),(0:Int))
 else
 none
abbrev Zu6:=Spec.shp Zl7 Zpp Z58
def Zeb:Ctx:=mC [(196,[],Zu8),(232,[],Zub)] [] 34 0
theorem Z59:Sound Tryz.prog 234 (Zu6) :=
 tS Zeb Tryz.f234 ⟨Z5d,Z5l,trivial⟩
abbrev Zj1:Shape:=⟨sl_15,bl_12,[y42],0⟩
abbrev Znj:Shape:=⟨sl_2,bl_12,[(.int .i64),y42],1⟩
def Zu (x:(T46)):Option (Int × T46) :=
 (Z58 x.1.2.2.1).bind fun r24 =>
 some (r24.2.1,(x.1.1,x.1.2.1,r24.1,x.1.2.2.2.1,(IntKind.wrap .i64 (x.1.2.2.2.2.1+(1:Int))),x.1.2.2.2.2.2),x.2)
abbrev Zs1:=Spec.shp Zj1 Znj Zu
def Zbm:Ctx:=mC [(234,[],Zu6)] [] 28 1
theorem Zv:Sound Tryz.prog 207 (Zs1) :=
 tS Zbm Tryz.f207 ⟨Z59,trivial⟩
abbrev Zir:Shape:=⟨sl_27,[],[y40,y5],0⟩
abbrev Zn9:Shape:=⟨sl_28,[],[y40,y30,(.int .i64)],0⟩
def Z8 (x:T45):Option T48 :=
 (Za x.1).bind fun r18 =>
 bif (Bool.not r18) then
 some (((0:Int),false,((0:Int),(0:Int),([]:List Int),(0:Int)),(0:Int),(0:Int),([]:List T7),([]:List T7)),((0:Int),(0:Int),((0:Int),(0:Int),(0:Int)),(0:Int)),(1:Int))
 else
 (Ze x.2).bind fun r19 =>
 bif (Bool.not r19) then
 some (((0:Int),false,((0:Int),(0:Int),([]:List Int),(0:Int)),(0:Int),(0:Int),([]:List T7),([]:List T7)),((0:Int),(0:Int),((0:Int),(0:Int),(0:Int)),(0:Int)),(1:Int))
 else
 (Zq (x.1.2.2.2.2.2.1,x.1,x.2.1)).bind fun r20 =>
 bif (r20.1.1 != (Int.negSucc 0)) then
 bif (r20.2.1.2.2.2.1 == (1048576:Int)) then
 some (((0:Int),false,((0:Int),(0:Int),([]:List Int),(0:Int)),(0:Int),(0:Int),([]:List T7),([]:List T7)),((0:Int),(0:Int),((0:Int),(0:Int),(0:Int)),(0:Int)),(5:Int))
 else
 (Zo (r20.1.1,r20.2)).bind fun r21 =>
 (Zl r21).bind fun r22 =>
 bif r22.1 then
 some (x.1,((0:Int),(0:Int),r20.1,(0:Int)),(0:Int))
 else
 bif (decide (r21.1.2.2.1.2.2.2 > (0:Int))) then
 (Zu r21).bind fun r23 =>
 bif (r20.1.1 != (Int.negSucc 0)) then
 (Zw r23.2).bind fun r24 =>
 some (r24.2.1,((1:Int),r23.1,r20.1,r24.1),(0:Int))
 else
 some (r23.2.1,((1:Int),r23.1,r20.1,(0:Int)),(0:Int))
 else
 bif (r20.1.1 != (Int.negSucc 0)) then
 (Zs r21).bind fun r23 =>
 some (r23.2.1,((1:Int),r23.1,r20.1,r23.1),(0:Int))
 else
 bif r21.1.2.1 then
 some (x.1,((2:Int),(0:Int),r20.1,(0:Int)),(0:Int))
 else
 (Z8y (r21.1.2.2.2.2.2.2,x.2)).bind fun r23 =>
 bif (r23.2 != (0:Int)) then
 some (((0:Int),false,((0:Int),(0:Int),([]:List Int),(0:Int)),(0:Int),(0:Int),([]:List T7),([]:List T7)),((0:Int),(0:Int),((0:Int),(0:Int),(0:Int)),(0:Int)),r23.2)
 else
 some ((r21.1.1,r21.1.2.1,r21.1.2.2.1,r21.1.2.2.2.1,r21.1.2.2.2.2.1,r21.1.2.2.2.2.2.1,r23.1),((0:Int),(0:Int),r20.1,(0:Int)),(0:Int))
 else
 (Zl r20.2).bind fun r21 =>
 bif r21.1 then
 some (x.1,((0:Int),(0:Int),r20.1,(0:Int)),(0:Int))
 else
 bif (decide (r20.2.1.2.2.1.2.2.2 > (0:Int))) then
 (Zu r20.2).bind fun r22 =>
 bif (r20.1.1 != (Int.negSucc 0)) then
 (Zw r22.2).bind fun r23 =>
 some (r23.2.1,((1:Int),r22.1,r20.1,r23.1),(0:Int))
 else
 some (r22.2.1,((1:Int),r22.1,r20.1,(0:Int)),(0:Int))
 else
 bif (r20.1.1 != (Int.negSucc 0)) then
 (Zs r20.2).bind fun r22 =>
 some (r22.2.1,((1:Int),r22.1,r20.1,r22.1),(0:Int))
 else
 bif r20.2.1.2.1 then
 some (x.1,((2:Int),(0:Int),r20.1,(0:Int)),(0:Int))
 else
 (Z8y (r20.2.1.2.2.2.2.2.2,x.2)).bind fun r22 =>
 bif (r22.2 != (0:Int)) then
 some (((0:Int),false,((0:Int),(0:Int),([]:List Int),(0:Int)),(0:Int),(0:Int),([]:List T7),([]:List T7)),((0:Int),(0:Int),((0:Int),(0:Int),(0:Int)),(0:Int)),r22.2)
 else
 some ((r20.2.1.1,r20.2.1.2.1,r20.2.1.2.2.1,r20.2.1.2.2.2.1,r20.2.1.2.2.2.2.1,r20.2.1.2.2.2.2.2.1,r22.1),((0:Int),(0:Int),r20.1,(0:Int)),(0:Int))
abbrev Zrr:=Spec.shp Zir Zn9 Z8
def Zbb:Ctx:=mC [(112,[],Zrs),(206,[],Zru),(167,[],Zrz),(205,[],Zry),(165,[],Spec.shpR Zix Znf Zl),(207,[],Zs1),(208,[],Zs2),(209,[],Zs0),(171,[],Zvz)] [] 130 0
theorem Z9:Sound Tryz.prog 169 (Zrr) :=
 tS Zbb Tryz.f169 ⟨Zb,Zf,Zr,Zp,Zn,Zv,Zx,Zt,Z8z,trivial⟩
abbrev Zju:Shape:=⟨sl_29,bl_2,[y5,(.int .i64),.bool,y39,y4,y18,y41,y19,y26,y27],0⟩
abbrev Zoc:Shape:=⟨[(0,(.hole y30))],bl_2,[y30,y39,y4,y18,y41,y19,y26,y27],1⟩
def Z2g (x:(T7 × Int × Bool × T47 × (Int × Int) × List (T17) × List T43 × List (T18) × List T29 × List (T20))):Option ((Int × T23) × T47 × (Int × Int) × List (T17) × List T43 × List (T18) × List T29 × List (T20)) :=
 bif x.2.2.1 then
 bif (inb x.2.1 (List.length x.2.2.2.2.2.2.1)) then
 (Zc ((getAt ((0:Int),false,((0:Int),(0:Int),([]:List Int),(0:Int)),(0:Int),(0:Int),([]:List T7),([]:List T7)) x.2.2.2.2.2.2.1 (toN x.2.1)),x.1)).bind fun r17 =>
 bif (inb x.2.1 (List.length x.2.2.2.2.2.2.1)) then
 some (r17.2.1,x.2.2.2.1,x.2.2.2.2.1,x.2.2.2.2.2.1,(List.set x.2.2.2.2.2.2.1 (toN x.2.1) r17.1),x.2.2.2.2.2.2.2.1,x.2.2.2.2.2.2.2.2.1,x.2.2.2.2.2.2.2.2.2)
 else
 none
 else
 none
 else
 bif (inb x.2.1 (List.length x.2.2.2.2.2.2.1)) then
 (Z8 ((getAt ((0:Int),false,((0:Int),(0:Int),([]:List Int),(0:Int)),(0:Int),(0:Int),([]:List T7),([]:List T7)) x.2.2.2.2.2.2.1 (toN x.2.1)),x.1)).bind fun r17 =>
 bif (inb x.2.1 (List.length x.2.2.2.2.2.2.1)) then
 some (r17.2.1,x.2.2.2.1,x.2.2.2.2.1,x.2.2.2.2.2.1,(List.set x.2.2.2.2.2.2.1 (toN x.2.1) r17.1),x.2.2.2.2.2.2.2.1,x.2.2.2.2.2.2.2.2.1,x.2.2.2.2.2.2.2.2.2)
 else
 none
 else
 none
abbrev Zsu:=Spec.shp Zju Zoc Z2g
def Zcn:Ctx:=mC [(170,[],Zrt),(169,[],Zrr)] [] 38 1
theorem Z2h:Sound Tryz.prog 124 (Zsu) :=
 tS Zcn Tryz.f124 ⟨Zd,Z9,trivial⟩
abbrev Zk8:Shape:=⟨sl_25,bl_2,ts_10,0⟩
abbrev Zoq:Shape:=⟨[],bl_2,ts_11,1⟩
def Z39 (x:T58):Option T57 :=
 bif (inb x.1 (List.length x.2.2.2.1)) then
 some (x.2.1,x.2.2.1,(List.set x.2.2.2.1 (toN x.1) ((getAt ((0:Int),(0:Int),(0:Int),false) x.2.2.2.1 (toN x.1)).1,(getAt ((0:Int),(0:Int),(0:Int),false) x.2.2.2.1 (toN x.1)).2.1,(1:Int),(getAt ((0:Int),(0:Int),(0:Int),false) x.2.2.2.1 (toN x.1)).2.2.2)),x.2.2.2.2.1,x.2.2.2.2.2.1,x.2.2.2.2.2.2.1,x.2.2.2.2.2.2.2)
 else
 none
abbrev Zt8:=Spec.shp Zk8 Zoq Z39
def Zd3:Ctx:=mC [] [] 12 1
theorem Z3a:Sound Tryz.prog 125 (Zt8) :=
 tS Zd3 Tryz.f125 trivial
abbrev Zio:Shape:=⟨sl_13,[],[y40,(.int .i64)],0⟩
abbrev Zn6:Shape:=⟨sl_13,[],[y40,(.int .i64)],0⟩
def Z2 (x:T46):Option T46 :=
 (Za x.1).bind fun r23 =>
 bif (Bool.not r23) then
 some (((0:Int),false,((0:Int),(0:Int),([]:List Int),(0:Int)),(0:Int),(0:Int),([]:List T7),([]:List T7)),(1:Int))
 else
 bif (decide (x.2 < (0:Int))) then
 some (((0:Int),false,((0:Int),(0:Int),([]:List Int),(0:Int)),(0:Int),(0:Int),([]:List T7),([]:List T7)),(1:Int))
 else
 (Zo (x.2,x.1,x.2)).bind fun r24 =>
 some (r24.1,(0:Int))
abbrev Zro:=Spec.shp Zio Zn6 Z2
def Zb8:Ctx:=mC [(112,[],Zrs),(205,[],Zry)] [] 26 0
theorem Z3:Sound Tryz.prog 168 (Zro) :=
 tS Zb8 Tryz.f168 ⟨Zb,Zp,trivial⟩
abbrev Zhv:Shape:=⟨[(0,(.ptr 0 [])),(6,(.ptr 1 [])),(98,(.sl 2)),(99,(.hole (.int .i64))),(100,(.hole (.int .i64)))],[.var (.pr (.pr (.hole y39) (.pr (.sl 3) (.pr (.sl 2) (.pr (.sl 4) (.pr (.sl 5) (.hole y4)))))) (.sl 6)),.var (.hole y5),.row y40,.row y12,.row y15,.row y23,.row y24],[(.int .i64),(.int .i64),y39,y4,y5,y41,y18,y19,y26,y27],1⟩
abbrev Zgw:List (ETag × Shape):=[(.exit 1,⟨[],bl_2,ts_11,1⟩)]
def Z9m (x:(Int × Int × T47 × (Int × Int) × T7 × List T43 × List (T17) × List (T18) × List T29 × List (T20))):Option ((Int × Int × T47 × (Int × Int) × T7 × List T43 × List (T17) × List (T18) × List T29 × List (T20)) ⊕ (T57)) :=
 bif (decide (x.2.1 < x.1)) then
 bif (inb x.2.1 (List.length x.2.2.2.2.2.1)) then
 (Z2 ((getAt ((0:Int),false,((0:Int),(0:Int),([]:List Int),(0:Int)),(0:Int),(0:Int),([]:List T7),([]:List T7)) x.2.2.2.2.2.1 (toN x.2.1)),x.2.2.2.2.1.1)).bind fun r22 =>
 bif (inb x.2.1 (List.length x.2.2.2.2.2.1)) then
 some (.inl (x.1,(IntKind.wrap .i64 (x.2.1+(1:Int))),x.2.2.1,x.2.2.2.1,x.2.2.2.2.1,(List.set x.2.2.2.2.2.1 (toN x.2.1) r22.1),x.2.2.2.2.2.2.1,x.2.2.2.2.2.2.2.1,x.2.2.2.2.2.2.2.2.1,x.2.2.2.2.2.2.2.2.2))
 else
 none
 else
 none
 else
 some (.inr (x.2.2.1,x.2.2.2.1,x.2.2.2.2.2.2.1,x.2.2.2.2.2.1,x.2.2.2.2.2.2.2.1,x.2.2.2.2.2.2.2.2.1,x.2.2.2.2.2.2.2.2.2))
def Zcd:Ctx:=mC [(78,[],Zsp),(40,[],Zt6),(120,[],Zsn),(168,[],Zro)] [] 120 1
theorem Z9n:CSound Tryz.prog ⟨120,1,true⟩ (.loop (loopOf 13 Tryz.f123)) (pieceSpec Zhv Zgw (loop Z9m)) :=
 tL Zcd 13 Tryz.f123 ⟨Z27,Z36,Z23,Z3,trivial⟩
abbrev Zjl:Shape:=⟨[(0,(.ptr 0 [])),(1,(.hole y5)),(2,(.hole (.int .i64))),(3,(.hole (.int .i64))),(4,(.hole (.int .i64)))],bl_2,[y5,(.int .i64),(.int .i64),(.int .i64),y39,y4,y18,y41,y19,y26,y27],0⟩
abbrev Zo3:Shape:=⟨[],bl_2,ts_11,1⟩
def Z1y (x:(T7 × Int × Int × Int × T47 × (Int × Int) × List (T17) × List T43 × List (T18) × List T29 × List (T20))):Option T57 :=
 (Z26 (x.1.1,x.2.2.2.2.1,x.2.2.2.2.2.1,x.2.2.2.2.2.2.1,x.2.2.2.2.2.2.2.1,x.2.2.2.2.2.2.2.2.1,x.2.2.2.2.2.2.2.2.2.1,x.2.2.2.2.2.2.2.2.2.2)).bind fun r18 =>
 bif (r18.1.1 == (1:Int)) then
 (Z35 (x.1.1,(3:Int),x.2.1,x.2.2.1,x.1.2.2,r18.2.1,r18.2.2.1,r18.2.2.2.1,r18.2.2.2.2.1,r18.2.2.2.2.2.1,r18.2.2.2.2.2.2.1,r18.2.2.2.2.2.2.2)).bind fun r19 =>
 (Z22 (x.1.1,r19.2.1,r19.2.2.1,r19.2.2.2.1,r19.2.2.2.2.1,r19.2.2.2.2.2.1,r19.2.2.2.2.2.2.1,r19.2.2.2.2.2.2.2)).bind fun r20 =>
 (loop Z9m ((((List.length r20.2.2.2.1):Nat):Int),(0:Int),r20.1,r20.2.1,x.1,r20.2.2.2.1,r20.2.2.1,r20.2.2.2.2.1,r20.2.2.2.2.2.1,r20.2.2.2.2.2.2)).bind fun r21 =>
 some (r21.1,r21.2.1,r21.2.2.1,r21.2.2.2.1,r21.2.2.2.2.1,r21.2.2.2.2.2.1,r21.2.2.2.2.2.2)
 else
 bif (r18.1.1 == (4:Int)) then
 bif (inb r18.1.2.1 (List.length r18.2.1.2.2.2.2.1)) then
 bif (inb x.1.2.1 (List.length (getAt (([]:List T0),false) r18.2.1.2.2.2.2.1 (toN r18.1.2.1)).1)) then
 bif (getAt (false,(0:Int)) (getAt (([]:List T0),false) r18.2.1.2.2.2.2.1 (toN r18.1.2.1)).1 (toN x.1.2.1)).1 then
 (Z35 (x.1.1,(3:Int),x.2.1,x.2.2.1,x.1.2.2,r18.2.1,r18.2.2.1,r18.2.2.2.1,r18.2.2.2.2.1,r18.2.2.2.2.2.1,r18.2.2.2.2.2.2.1,r18.2.2.2.2.2.2.2)).bind fun r19 =>
 (Z22 (x.1.1,r19.2.1,r19.2.2.1,r19.2.2.2.1,r19.2.2.2.2.1,r19.2.2.2.2.2.1,r19.2.2.2.2.2.2.1,r19.2.2.2.2.2.2.2)).bind fun r20 =>
 (loop Z9m ((((List.length r20.2.2.2.1):Nat):Int),(0:Int),r20.1,r20.2.1,x.1,r20.2.2.2.1,r20.2.2.1,r20.2.2.2.2.1,r20.2.2.2.2.2.1,r20.2.2.2.2.2.2)).bind fun r21 =>
 some (r21.1,r21.2.1,r21.2.2.1,r21.2.2.2.1,r21.2.2.2.2.1,r21.2.2.2.2.2.1,r21.2.2.2.2.2.2)
 else
 bif (x.2.2.2.1 == (2:Int)) then
 (Z35 (x.1.1,(6:Int),x.2.1,(0:Int),x.1.2.2,r18.2.1,r18.2.2.1,r18.2.2.2.1,r18.2.2.2.2.1,r18.2.2.2.2.2.1,r18.2.2.2.2.2.2.1,r18.2.2.2.2.2.2.2)).bind fun r19 =>
 bif (inb x.1.1 (List.length r19.2.2.2.1)) then
 (Z22 (x.1.1,r19.2.1,r19.2.2.1,(List.set r19.2.2.2.1 (toN x.1.1) ((getAt ((0:Int),(0:Int),(0:Int),false) r19.2.2.2.1 (toN x.1.1)).1,(getAt ((0:Int),(0:Int),(0:Int),false) r19.2.2.2.1 (toN x.1.1)).2.1,(getAt ((0:Int),(0:Int),(0:Int),false) r19.2.2.2.1 (toN x.1.1)).2.2.1,true)),r19.2.2.2.2.1,r19.2.2.2.2.2.1,r19.2.2.2.2.2.2.1,r19.2.2.2.2.2.2.2)).bind fun r20 =>
 (loop Z9m ((((List.length r20.2.2.2.1):Nat):Int),(0:Int),r20.1,r20.2.1,x.1,r20.2.2.2.1,r20.2.2.1,r20.2.2.2.2.1,r20.2.2.2.2.2.1,r20.2.2.2.2.2.2)).bind fun r21 =>
 some (r21.1,r21.2.1,r21.2.2.1,r21.2.2.2.1,r21.2.2.2.2.1,r21.2.2.2.2.2.1,r21.2.2.2.2.2.2)
 else
 none
 else
 (Z35 (x.1.1,(5:Int),x.2.1,x.2.2.1,x.1.2.2,r18.2.1,r18.2.2.1,r18.2.2.2.1,r18.2.2.2.2.1,r18.2.2.2.2.2.1,r18.2.2.2.2.2.2.1,r18.2.2.2.2.2.2.2)).bind fun r19 =>
 bif (inb x.1.1 (List.length r19.2.2.2.1)) then
 (Z22 (x.1.1,r19.2.1,r19.2.2.1,(List.set r19.2.2.2.1 (toN x.1.1) ((getAt ((0:Int),(0:Int),(0:Int),false) r19.2.2.2.1 (toN x.1.1)).1,(getAt ((0:Int),(0:Int),(0:Int),false) r19.2.2.2.1 (toN x.1.1)).2.1,(getAt ((0:Int),(0:Int),(0:Int),false) r19.2.2.2.1 (toN x.1.1)).2.2.1,false)),r19.2.2.2.2.1,r19.2.2.2.2.2.1,r19.2.2.2.2.2.2.1,r19.2.2.2.2.2.2.2)).bind fun r20 =>
 (loop Z9m ((((List.length r20.2.2.2.1):Nat):Int),(0:Int),r20.1,r20.2.1,x.1,r20.2.2.2.1,r20.2.2.1,r20.2.2.2.2.1,r20.2.2.2.2.2.1,r20.2.2.2.2.2.2)).bind fun r21 =>
 some (r21.1,r21.2.1,r21.2.2.1,r21.2.2.2.1,r21.2.2.2.2.1,r21.2.2.2.2.2.1,r21.2.2.2.2.2.2)
 else
 none
 else
 none
 else
 none
 else
 bif (x.2.2.2.1 == (2:Int)) then
 (Z35 (x.1.1,(6:Int),x.2.1,(0:Int),x.1.2.2,r18.2.1,r18.2.2.1,r18.2.2.2.1,r18.2.2.2.2.1,r18.2.2.2.2.2.1,r18.2.2.2.2.2.2.1,r18.2.2.2.2.2.2.2)).bind fun r19 =>
 bif (inb x.1.1 (List.length r19.2.2.2.1)) then
 (Z22 (x.1.1,r19.2.1,r19.2.2.1,(List.set r19.2.2.2.1 (toN x.1.1) ((getAt ((0:Int),(0:Int),(0:Int),false) r19.2.2.2.1 (toN x.1.1)).1,(getAt ((0:Int),(0:Int),(0:Int),false) r19.2.2.2.1 (toN x.1.1)).2.1,(getAt ((0:Int),(0:Int),(0:Int),false) r19.2.2.2.1 (toN x.1.1)).2.2.1,true)),r19.2.2.2.2.1,r19.2.2.2.2.2.1,r19.2.2.2.2.2.2.1,r19.2.2.2.2.2.2.2)).bind fun r20 =>
 (loop Z9m ((((List.length r20.2.2.2.1):Nat):Int),(0:Int),r20.1,r20.2.1,x.1,r20.2.2.2.1,r20.2.2.1,r20.2.2.2.2.1,r20.2.2.2.2.2.1,r20.2.2.2.2.2.2)).bind fun r21 =>
 some (r21.1,r21.2.1,r21.2.2.1,r21.2.2.2.1,r21.2.2.2.2.1,r21.2.2.2.2.2.1,r21.2.2.2.2.2.2)
 else
 none
 else
 (Z35 (x.1.1,(5:Int),x.2.1,x.2.2.1,x.1.2.2,r18.2.1,r18.2.2.1,r18.2.2.2.1,r18.2.2.2.2.1,r18.2.2.2.2.2.1,r18.2.2.2.2.2.2.1,r18.2.2.2.2.2.2.2)).bind fun r19 =>
 bif (inb x.1.1 (List.length r19.2.2.2.1)) then
 (Z22 (x.1.1,r19.2.1,r19.2.2.1,(List.set r19.2.2.2.1 (toN x.1.1) ((getAt ((0:Int),(0:Int),(0:Int),false) r19.2.2.2.1 (toN x.1.1)).1,(getAt ((0:Int),(0:Int),(0:Int),false) r19.2.2.2.1 (toN x.1.1)).2.1,(getAt ((0:Int),(0:Int),(0:Int),false) r19.2.2.2.1 (toN x.1.1)).2.2.1,false)),r19.2.2.2.2.1,r19.2.2.2.2.2.1,r19.2.2.2.2.2.2.1,r19.2.2.2.2.2.2.2)).bind fun r20 =>
 (loop Z9m ((((List.length r20.2.2.2.1):Nat):Int),(0:Int),r20.1,r20.2.1,x.1,r20.2.2.2.1,r20.2.2.1,r20.2.2.2.2.1,r20.2.2.2.2.2.1,r20.2.2.2.2.2.2)).bind fun r21 =>
 some (r21.1,r21.2.1,r21.2.2.1,r21.2.2.2.1,r21.2.2.2.2.1,r21.2.2.2.2.2.1,r21.2.2.2.2.2.2)
 else
 none
abbrev Zsl:=Spec.shp Zjl Zo3 Z1y
def Zcc:Ctx:=mC [(78,[],Zsp),(40,[],Zt6),(120,[],Zsn),(168,[],Zro)] [(0,13,pieceSpec Zhv Zgw (loop Z9m))] 120 1
theorem Z1z:Sound Tryz.prog 123 (Zsl) :=
 tS Zcc Tryz.f123 ⟨Z27,Z36,Z23,Z3,trivial⟩ ⟨(pL 13 Tryz.f123 Z9n),trivial⟩
abbrev Zjw:Shape:=⟨sl_29,bl_2,[y5,(.int .i64),.bool,y39,y4,y18,y41,y19,y26,y27],0⟩
abbrev Zoe:Shape:=⟨[],bl_2,ts_11,1⟩
def Z2k (x:(T7 × Int × Bool × T47 × (Int × Int) × List (T17) × List T43 × List (T18) × List T29 × List (T20))):Option T57 :=
 (Z2g (x.1,x.2.1,x.2.2.1,x.2.2.2.1,x.2.2.2.2.1,x.2.2.2.2.2.1,x.2.2.2.2.2.2.1,x.2.2.2.2.2.2.2.1,x.2.2.2.2.2.2.2.2.1,x.2.2.2.2.2.2.2.2.2)).bind fun r16 =>
 bif (r16.1.1 == (0:Int)) then
 (Z39 (x.1.1,r16.2.1,r16.2.2.1,r16.2.2.2.1,r16.2.2.2.2.1,r16.2.2.2.2.2.1,r16.2.2.2.2.2.2.1,r16.2.2.2.2.2.2.2)).bind fun r17 =>
 some (r17.1,r17.2.1,r17.2.2.1,r17.2.2.2.1,r17.2.2.2.2.1,r17.2.2.2.2.2.1,r17.2.2.2.2.2.2)
 else
 bif (r16.1.1 == (3:Int)) then
 some (r16.2.1,(r16.2.2.1.1,(3:Int)),r16.2.2.2.1,r16.2.2.2.2.1,r16.2.2.2.2.2.1,r16.2.2.2.2.2.2.1,r16.2.2.2.2.2.2.2)
 else
 bif (r16.1.2.2.1.1 != (Int.negSucc 0)) then
 (Z1y (r16.1.2.2.1,x.2.1,r16.1.2.2.2,(1:Int),r16.2.1,r16.2.2.1,r16.2.2.2.1,r16.2.2.2.2.1,r16.2.2.2.2.2.1,r16.2.2.2.2.2.2.1,r16.2.2.2.2.2.2.2)).bind fun r17 =>
 (Z1y (x.1,x.2.1,r16.1.2.1,r16.1.1,r17.1,r17.2.1,r17.2.2.1,r17.2.2.2.1,r17.2.2.2.2.1,r17.2.2.2.2.2.1,r17.2.2.2.2.2.2)).bind fun r18 =>
 some (r18.1,r18.2.1,r18.2.2.1,r18.2.2.2.1,r18.2.2.2.2.1,r18.2.2.2.2.2.1,r18.2.2.2.2.2.2)
 else
 (Z1y (x.1,x.2.1,r16.1.2.1,r16.1.1,r16.2.1,r16.2.2.1,r16.2.2.2.1,r16.2.2.2.2.1,r16.2.2.2.2.2.1,r16.2.2.2.2.2.2.1,r16.2.2.2.2.2.2.2)).bind fun r17 =>
 some (r17.1,r17.2.1,r17.2.2.1,r17.2.2.2.1,r17.2.2.2.2.1,r17.2.2.2.2.2.1,r17.2.2.2.2.2.2)
abbrev Zsw:=Spec.shp Zjw Zoe Z2k
def Zcp:Ctx:=mC [(124,[],Zsu),(125,[],Zt8),(123,[],Zsl)] [] 47 1
theorem Z2l:Sound Tryz.prog 121 (Zsw) :=
 tS Zcp Tryz.f121 ⟨Z2h,Z3a,Z1z,trivial⟩
abbrev Zk0:Shape:=⟨sl_26,bl_2,ts_14,0⟩
abbrev Zoi:Shape:=⟨[],bl_2,ts_11,1⟩
def Z2s (x:T60):Option T57 :=
 (Z35 (x.1.1,(2:Int),x.2.1.2.1,(0:Int),(Int.negSucc 0),x.2.2.1,x.2.2.2.1,x.2.2.2.2.1,x.2.2.2.2.2.1,x.2.2.2.2.2.2.1,x.2.2.2.2.2.2.2.1,x.2.2.2.2.2.2.2.2)).bind fun r14 =>
 (Z2k ((x.1.1,(0:Int),r14.1),x.2.1.2.1,true,r14.2.1,r14.2.2.1,r14.2.2.2.1,r14.2.2.2.2.1,r14.2.2.2.2.2.1,r14.2.2.2.2.2.2.1,r14.2.2.2.2.2.2.2)).bind fun r15 =>
 some (r15.1,r15.2.1,r15.2.2.1,r15.2.2.2.1,r15.2.2.2.2.1,r15.2.2.2.2.2.1,r15.2.2.2.2.2.2)
abbrev Zt0:=Spec.shp Zk0 Zoi Z2s
def Zcu:Ctx:=mC [(40,[],Zt6),(121,[],Zsw)] [] 21 1
theorem Z2t:Sound Tryz.prog 65 (Zt0) :=
 tS Zcu Tryz.f65 ⟨Z36,Z2l,trivial⟩
abbrev Zjy:Shape:=⟨sl_26,bl_2,ts_14,0⟩
abbrev Zog:Shape:=⟨[],bl_2,ts_11,1⟩
def Z2o (x:T60):Option T57 :=
 (Z35 (x.1.1,(4:Int),x.2.1.2.1,(0:Int),(Int.negSucc 0),x.2.2.1,x.2.2.2.1,x.2.2.2.2.1,x.2.2.2.2.2.1,x.2.2.2.2.2.2.1,x.2.2.2.2.2.2.2.1,x.2.2.2.2.2.2.2.2)).bind fun r14 =>
 (Z2k ((x.1.1,(0:Int),r14.1),x.2.1.2.1,false,r14.2.1,r14.2.2.1,r14.2.2.2.1,r14.2.2.2.2.1,r14.2.2.2.2.2.1,r14.2.2.2.2.2.2.1,r14.2.2.2.2.2.2.2)).bind fun r15 =>
 some (r15.1,r15.2.1,r15.2.2.1,r15.2.2.2.1,r15.2.2.2.2.1,r15.2.2.2.2.2.1,r15.2.2.2.2.2.2)
abbrev Zsy:=Spec.shp Zjy Zog Z2o
def Zcr:Ctx:=mC [(40,[],Zt6),(121,[],Zsw)] [] 21 1
theorem Z2p:Sound Tryz.prog 66 (Zsy) :=
 tS Zcr Tryz.f66 ⟨Z36,Z2l,trivial⟩
abbrev Zin:Shape:=⟨[(0,(.hole y40))],[],[y40],0⟩
abbrev Zn5:Shape:=⟨[(0,(.hole y40)),(1,(.hole (.slice y5))),(2,(.hole .bool)),(3,(.hole (.int .i64)))],[],[y40,(.slice y5),.bool,(.int .i64)],0⟩
def Z0 (x:T43):Option ((Int × T40) × List (T7) × Bool × Int) :=
 (Za x).bind fun r15 =>
 bif (Bool.not r15) then
 some (((0:Int),false,((0:Int),(0:Int),([]:List Int),(0:Int)),(0:Int),(0:Int),([]:List T7),([]:List T7)),([]:List T7),false,(1:Int))
 else
 bif (decide (x.1 < (0:Int))) then
 some (x,([]:List T7),true,(0:Int))
 else
 bif x.2.1 then
 some (x,([]:List T7),true,(0:Int))
 else
 bif (decide ((((List.length x.2.2.2.2.2.1):Nat):Int) > (0:Int))) then
 some (x,([]:List T7),true,(0:Int))
 else
 some ((x.1,true,x.2.2.1,x.2.2.2.1,x.2.2.2.2.1,x.2.2.2.2.2.1,([]:List T7)),x.2.2.2.2.2.2,false,(0:Int))
abbrev Zrn:=Spec.shp Zin Zn5 Z0
def Zb7:Ctx:=mC [(112,[],Zrs)] [] 31 0
theorem Z1:Sound Tryz.prog 122 (Zrn) :=
 tS Zb7 Tryz.f122 ⟨Zb,trivial⟩
abbrev Zhy:Shape:=⟨[(0,(.ptr 0 [])),(5,(.ptr 1 [])),(10,(.mp 2)),(53,(.hole (.slice y5))),(54,(.hole (.int .i64))),(55,(.hole (.int .i64)))],[.var (.pr (.pr (.hole y39) (.pr (.sl 3) (.pr (.sl 4) (.pr (.sl 5) (.pr (.sl 6) (.hole y4)))))) (.sl 7)),.var (.hole y5),.mp (.int .i64) (.int .i64),.row y12,.row y40,.row y15,.row y23,.row y24],[(.slice y5),(.int .i64),(.int .i64),y39,y4,y5,(.slice y4),y18,y41,y19,y26,y27],1⟩
abbrev Zgz:List (ETag × Shape):=[(.exit 0,⟨[],bl_2,ts_11,1⟩)]
def Z9s (x:(List (T7) × Int × Int × T47 × (Int × Int) × T7 × List (Int × Int) × List (T17) × List T43 × List (T18) × List T29 × List (T20))):Option ((List (T7) × Int × Int × T47 × (Int × Int) × T7 × List (Int × Int) × List (T17) × List T43 × List (T18) × List T29 × List (T20)) ⊕ (T57)) :=
 bif (decide (x.2.2.1 < x.2.1)) then
 bif (inb x.2.2.1 (List.length x.1)) then
 bif ((@mlook (Int) (Int) (Ty.beq (.int .i64)) (Ty.zero (.int .i64)) (getAt ((0:Int),(0:Int),(0:Int)) x.1 (toN x.2.2.1)).1 (@mput (Int) (Int) (Ty.beq (.int .i64)) (getAt ((0:Int),(0:Int),(0:Int)) x.1 (toN x.2.2.1)).1 (IntKind.wrap .i64 ((@mlook (Int) (Int) (Ty.beq (.int .i64)) (Ty.zero (.int .i64)) (getAt ((0:Int),(0:Int),(0:Int)) x.1 (toN x.2.2.1)).1 x.2.2.2.2.2.2.1)+(1:Int))) x.2.2.2.2.2.2.1)) == (1:Int)) then
 (Z1y ((getAt ((0:Int),(0:Int),(0:Int)) x.1 (toN x.2.2.1)),x.2.2.2.2.2.1.2.1,(0:Int),(2:Int),x.2.2.2.1,x.2.2.2.2.1,x.2.2.2.2.2.2.2.1,x.2.2.2.2.2.2.2.2.1,x.2.2.2.2.2.2.2.2.2.1,x.2.2.2.2.2.2.2.2.2.2.1,x.2.2.2.2.2.2.2.2.2.2.2)).bind fun r18 =>
 some (.inl (x.1,x.2.1,(IntKind.wrap .i64 (x.2.2.1+(1:Int))),r18.1,r18.2.1,x.2.2.2.2.2.1,(@mput (Int) (Int) (Ty.beq (.int .i64)) (getAt ((0:Int),(0:Int),(0:Int)) x.1 (toN x.2.2.1)).1 (IntKind.wrap .i64 ((@mlook (Int) (Int) (Ty.beq (.int .i64)) (Ty.zero (.int .i64)) (getAt ((0:Int),(0:Int),(0:Int)) x.1 (toN x.2.2.1)).1 x.2.2.2.2.2.2.1)+(1:Int))) x.2.2.2.2.2.2.1),r18.2.2.1,r18.2.2.2.1,r18.2.2.2.2.1,r18.2.2.2.2.2.1,r18.2.2.2.2.2.2))
 else
 some (.inl (x.1,x.2.1,(IntKind.wrap .i64 (x.2.2.1+(1:Int))),x.2.2.2.1,x.2.2.2.2.1,x.2.2.2.2.2.1,(@mput (Int) (Int) (Ty.beq (.int .i64)) (getAt ((0:Int),(0:Int),(0:Int)) x.1 (toN x.2.2.1)).1 (IntKind.wrap .i64 ((@mlook (Int) (Int) (Ty.beq (.int .i64)) (Ty.zero (.int .i64)) (getAt ((0:Int),(0:Int),(0:Int)) x.1 (toN x.2.2.1)).1 x.2.2.2.2.2.2.1)+(1:Int))) x.2.2.2.2.2.2.1),x.2.2.2.2.2.2.2.1,x.2.2.2.2.2.2.2.2.1,x.2.2.2.2.2.2.2.2.2.1,x.2.2.2.2.2.2.2.2.2.2.1,x.2.2.2.2.2.2.2.2.2.2.2))
 else
 none
 else
 some (.inr (x.2.2.2.1,x.2.2.2.2.1,x.2.2.2.2.2.2.2.1,x.2.2.2.2.2.2.2.2.1,x.2.2.2.2.2.2.2.2.2.1,x.2.2.2.2.2.2.2.2.2.2.1,x.2.2.2.2.2.2.2.2.2.2.2))
def Zcz:Ctx:=mC [(122,[],Zrn),(40,[],Zt6),(120,[],Zsn),(123,[],Zsl)] [] 75 1
theorem Z9t:CSound Tryz.prog ⟨75,1,true⟩ (.loop (loopOf 10 Tryz.f67)) (pieceSpec Zhy Zgz (loop Z9s)) :=
 tL Zcz 10 Tryz.f67 ⟨Z1,Z36,Z23,Z1z,trivial⟩
abbrev Zk4:Shape:=⟨sl_26,bl_2,ts_14,0⟩
abbrev Zom:Shape:=⟨[],bl_2,ts_11,1⟩
def Z31 (x:T60):Option T57 :=
 bif (inb x.2.1.2.1 (List.length x.2.2.2.2.2.1)) then
 (Z0 (getAt ((0:Int),false,((0:Int),(0:Int),([]:List Int),(0:Int)),(0:Int),(0:Int),([]:List T7),([]:List T7)) x.2.2.2.2.2.1 (toN x.2.1.2.1))).bind fun r14 =>
 bif r14.2.2.1 then
 some (x.2.2.1,(x.2.2.2.1.1,(3:Int)),x.2.2.2.2.1,x.2.2.2.2.2.1,x.2.2.2.2.2.2.1,x.2.2.2.2.2.2.2.1,x.2.2.2.2.2.2.2.2)
 else
 bif (inb x.2.1.2.1 (List.length x.2.2.2.2.2.1)) then
 (Z35 (x.1.1,(7:Int),x.2.1.2.1,(0:Int),(Int.negSucc 0),x.2.2.1,x.2.2.2.1,x.2.2.2.2.1,(List.set x.2.2.2.2.2.1 (toN x.2.1.2.1) r14.1),x.2.2.2.2.2.2.1,x.2.2.2.2.2.2.2.1,x.2.2.2.2.2.2.2.2)).bind fun r15 =>
 (Z22 (x.1.1,r15.2.1,r15.2.2.1,r15.2.2.2.1,r15.2.2.2.2.1,r15.2.2.2.2.2.1,r15.2.2.2.2.2.2.1,r15.2.2.2.2.2.2.2)).bind fun r16 =>
 (loop Z9s (r14.2.1,(((List.length r14.2.1):Nat):Int),(0:Int),r16.1,r16.2.1,x.2.1,([]:List (Int × Int)),r16.2.2.1,r16.2.2.2.1,r16.2.2.2.2.1,r16.2.2.2.2.2.1,r16.2.2.2.2.2.2)).bind fun r17 =>
 some (r17.1,r17.2.1,r17.2.2.1,r17.2.2.2.1,r17.2.2.2.2.1,r17.2.2.2.2.2.1,r17.2.2.2.2.2.2)
 else
 none
 else
 none
abbrev Zt4:=Spec.shp Zk4 Zom Z31
def Zcy:Ctx:=mC [(122,[],Zrn),(40,[],Zt6),(120,[],Zsn),(123,[],Zsl)] [(0,10,pieceSpec Zhy Zgz (loop Z9s))] 75 1
theorem Z32:Sound Tryz.prog 67 (Zt4) :=
 tS Zcy Tryz.f67 ⟨Z1,Z36,Z23,Z1z,trivial⟩ ⟨(pL 10 Tryz.f67 Z9t),trivial⟩
abbrev Zhx:Shape:=⟨[(0,(.ptr 0 [])),(4,(.ptr 1 [])),(6,(.hole (.int .i64))),(28,(.hole (.slice y2))),(29,(.hole (.int .i64))),(30,(.hole (.int .i64)))],bl_15,[(.int .i64),(.slice y2),(.int .i64),(.int .i64),y39,y4,y4,y18,y41,y19,y26,y27],1⟩
abbrev Zgy:List (ETag × Shape):=[(.exit 1,⟨[(0,(.ptr 0 [])),(4,(.ptr 1 []))],bl_15,[y39,y4,y4,y18,y41,y19,y26,y27],1⟩)]
def Z9q (x:(Int × List T0 × Int × Int × T47 × (Int × Int) × (Int × Int) × List (T17) × List T43 × List (T18) × List T29 × List (T20))):Option ((Int × List T0 × Int × Int × T47 × (Int × Int) × (Int × Int) × List (T17) × List T43 × List (T18) × List T29 × List (T20)) ⊕ (T47 × (Int × Int) × (Int × Int) × List (T17) × List T43 × List (T18) × List T29 × List (T20))) :=
 bif (decide (x.2.2.2.1 < x.2.2.1)) then
 bif (inb x.2.2.2.1 (List.length x.2.1)) then
 (Z2g ((x.2.2.2.2.2.2.1.1,x.2.2.2.1,x.1),(getAt (false,(0:Int)) x.2.1 (toN x.2.2.2.1)).2,(getAt (false,(0:Int)) x.2.1 (toN x.2.2.2.1)).1,x.2.2.2.2.1,x.2.2.2.2.2.1,x.2.2.2.2.2.2.2.1,x.2.2.2.2.2.2.2.2.1,x.2.2.2.2.2.2.2.2.2.1,x.2.2.2.2.2.2.2.2.2.2.1,x.2.2.2.2.2.2.2.2.2.2.2)).bind fun r16 =>
 some (.inl (x.1,x.2.1,x.2.2.1,(IntKind.wrap .i64 (x.2.2.2.1+(1:Int))),r16.2.1,r16.2.2.1,x.2.2.2.2.2.2.1,r16.2.2.2.1,r16.2.2.2.2.1,r16.2.2.2.2.2.1,r16.2.2.2.2.2.2.1,r16.2.2.2.2.2.2.2))
 else
 none
 else
 some (.inr (x.2.2.2.2.1,x.2.2.2.2.2.1,x.2.2.2.2.2.2.1,x.2.2.2.2.2.2.2.1,x.2.2.2.2.2.2.2.2.1,x.2.2.2.2.2.2.2.2.2.1,x.2.2.2.2.2.2.2.2.2.2.1,x.2.2.2.2.2.2.2.2.2.2.2))
def Zct:Ctx:=mC [(40,[],Zt6),(121,[],Zsw),(120,[],Zsn),(124,[],Zsu)] [] 87 1
theorem Z9r:CSound Tryz.prog ⟨87,1,true⟩ (.loop (loopOf 5 Tryz.f68)) (pieceSpec Zhx Zgy (loop Z9q)) :=
 tL Zct 5 Tryz.f68 ⟨Z36,Z2l,Z23,Z2h,trivial⟩
abbrev Zjz:Shape:=⟨sl_26,bl_2,ts_14,0⟩
abbrev Zoh:Shape:=⟨[],bl_2,ts_11,1⟩
def Z2q (x:T60):Option T57 :=
 (Z35 (x.1.1,(8:Int),x.2.1.2.1,(0:Int),(Int.negSucc 0),x.2.2.1,x.2.2.2.1,x.2.2.2.2.1,x.2.2.2.2.2.1,x.2.2.2.2.2.2.1,x.2.2.2.2.2.2.2.1,x.2.2.2.2.2.2.2.2)).bind fun r14 =>
 bif (inb x.2.1.2.1 (List.length r14.2.1.2.2.2.2.1)) then
 bif (x.1.2 != (Int.negSucc 0)) then
 bif (inb x.1.2 (List.length (getAt (([]:List T0),false) r14.2.1.2.2.2.2.1 (toN x.2.1.2.1)).1)) then
 (Z2k ((x.1.1,x.1.2,r14.1),(getAt (false,(0:Int)) (getAt (([]:List T0),false) r14.2.1.2.2.2.2.1 (toN x.2.1.2.1)).1 (toN x.1.2)).2,(getAt (false,(0:Int)) (getAt (([]:List T0),false) r14.2.1.2.2.2.2.1 (toN x.2.1.2.1)).1 (toN x.1.2)).1,r14.2.1,r14.2.2.1,r14.2.2.2.1,r14.2.2.2.2.1,r14.2.2.2.2.2.1,r14.2.2.2.2.2.2.1,r14.2.2.2.2.2.2.2)).bind fun r15 =>
 some (r15.1,r15.2.1,r15.2.2.1,r15.2.2.2.1,r15.2.2.2.2.1,r15.2.2.2.2.2.1,r15.2.2.2.2.2.2)
 else
 none
 else
 bif (getAt (([]:List T0),false) r14.2.1.2.2.2.2.1 (toN x.2.1.2.1)).2 then
 (Z35 (x.1.1,(9:Int),x.2.1.2.1,(0:Int),r14.1,r14.2.1,r14.2.2.1,r14.2.2.2.1,r14.2.2.2.2.1,r14.2.2.2.2.2.1,r14.2.2.2.2.2.2.1,r14.2.2.2.2.2.2.2)).bind fun r15 =>
 (Z22 (x.1.1,r15.2.1,r15.2.2.1,r15.2.2.2.1,r15.2.2.2.2.1,r15.2.2.2.2.2.1,r15.2.2.2.2.2.2.1,r15.2.2.2.2.2.2.2)).bind fun r16 =>
 some (r16.1,r16.2.1,r16.2.2.1,r16.2.2.2.1,r16.2.2.2.2.1,r16.2.2.2.2.2.1,r16.2.2.2.2.2.2)
 else
 (loop Z9q (r14.1,(getAt (([]:List T0),false) r14.2.1.2.2.2.2.1 (toN x.2.1.2.1)).1,(((List.length (getAt (([]:List T0),false) r14.2.1.2.2.2.2.1 (toN x.2.1.2.1)).1):Nat):Int),(0:Int),r14.2.1,r14.2.2.1,x.1,r14.2.2.2.1,r14.2.2.2.2.1,r14.2.2.2.2.2.1,r14.2.2.2.2.2.2.1,r14.2.2.2.2.2.2.2)).bind fun r15 =>
 (Z39 (r15.2.2.1.1,r15.1,r15.2.1,r15.2.2.2.1,r15.2.2.2.2.1,r15.2.2.2.2.2.1,r15.2.2.2.2.2.2.1,r15.2.2.2.2.2.2.2)).bind fun r16 =>
 some (r16.1,r16.2.1,r16.2.2.1,r16.2.2.2.1,r16.2.2.2.2.1,r16.2.2.2.2.2.1,r16.2.2.2.2.2.2)
 else
 none
abbrev Zsz:=Spec.shp Zjz Zoh Z2q
def Zcs:Ctx:=mC [(40,[],Zt6),(121,[],Zsw),(120,[],Zsn),(124,[],Zsu),(125,[],Zt8)] [(0,5,pieceSpec Zhx Zgy (loop Z9q))] 87 1
theorem Z2r:Sound Tryz.prog 68 (Zsz) :=
 tS Zcs Tryz.f68 ⟨Z36,Z2l,Z23,Z2h,Z3a,trivial⟩ ⟨(pL 5 Tryz.f68 Z9r),trivial⟩
abbrev Zj6:Shape:=⟨[(0,(.hole (.one (.slice y5))))],[],[(.one (.slice y5))],0⟩
abbrev Zno:Shape:=⟨[(0,(.hole y15))],[],[y15],0⟩
def Z14 (x:(List (T7))):Option (T18) :=
 some (true,x)
abbrev Zs6:=Spec.shp Zj6 Zno Z14
def Zbr:Ctx:=mC [] [] 6 0
theorem Z15:Sound Tryz.prog 172 (Zs6) :=
 tS Zbr Tryz.f172 trivial
abbrev Zj5:Shape:=⟨[(0,(.hole y15)),(1,(.hole y5))],[],[y15,y5],0⟩
abbrev Znn:Shape:=⟨[(0,(.hole y15)),(1,(.hole .bool)),(2,(.hole (.int .i64)))],[],[y15,.bool,(.int .i64)],0⟩
def Z12 (x:(T18 × T7)):Option (T18 × Bool × Int) :=
 (Z8y (x.1.2,x.2)).bind fun r16 =>
 (Z10 x.1).bind fun r17 =>
 bif (Bool.not r17) then
 some ((false,([]:List T7)),false,(1:Int))
 else
 bif (r16.2 == (1:Int)) then
 some ((false,([]:List T7)),false,(1:Int))
 else
 bif (Bool.not x.1.1) then
 (Z14 ([]:List T7)).bind fun r18 =>
 some (r18,true,(0:Int))
 else
 bif (r16.2 != (0:Int)) then
 some ((false,([]:List T7)),false,r16.2)
 else
 (Z14 r16.1).bind fun r18 =>
 some (r18,false,(0:Int))
abbrev Zs5:=Spec.shp Zj5 Znn Z12
def Zbq:Ctx:=mC [(171,[],Zvz),(117,[],Zs4),(172,[],Zs6)] [] 39 0
theorem Z13:Sound Tryz.prog 126 (Zs5) :=
 tS Zbq Tryz.f126 ⟨Z8z,Z11,Z15,trivial⟩
abbrev Zjs:Shape:=⟨[(0,(.ptr 0 [])),(1,(.hole (.int .i64))),(2,(.hole (.int .i64))),(3,(.hole (.int .i64)))],bl_2,[(.int .i64),(.int .i64),(.int .i64),y39,y4,y18,y41,y19,y26,y27],0⟩
abbrev Zoa:Shape:=⟨[],bl_2,ts_11,1⟩
def Z2c (x:(Int × Int × Int × T47 × (Int × Int) × List (T17) × List T43 × List (T18) × List T29 × List (T20))):Option T57 :=
 (Z35 (x.1,(11:Int),x.2.1,(0:Int),x.2.2.1,x.2.2.2.1,x.2.2.2.2.1,x.2.2.2.2.2.1,x.2.2.2.2.2.2.1,x.2.2.2.2.2.2.2.1,x.2.2.2.2.2.2.2.2.1,x.2.2.2.2.2.2.2.2.2)).bind fun r17 =>
 (Z22 (x.1,r17.2.1,r17.2.2.1,r17.2.2.2.1,r17.2.2.2.2.1,r17.2.2.2.2.2.1,r17.2.2.2.2.2.2.1,r17.2.2.2.2.2.2.2)).bind fun r18 =>
 some (r18.1,r18.2.1,r18.2.2.1,r18.2.2.2.1,r18.2.2.2.2.1,r18.2.2.2.2.2.1,r18.2.2.2.2.2.2)
abbrev Zss:=Spec.shp Zjs Zoa Z2c
def Zcl:Ctx:=mC [(40,[],Zt6),(120,[],Zsn)] [] 16 1
theorem Z2d:Sound Tryz.prog 127 (Zss) :=
 tS Zcl Tryz.f127 ⟨Z36,Z23,trivial⟩
abbrev Zjr:Shape:=⟨sl_26,bl_2,ts_14,0⟩
abbrev Zo9:Shape:=⟨[],bl_2,ts_11,1⟩
def Z2a (x:T60):Option T57 :=
 (Z35 (x.1.1,(10:Int),x.2.1.2.1,(0:Int),(Int.negSucc 0),x.2.2.1,x.2.2.2.1,x.2.2.2.2.1,x.2.2.2.2.2.1,x.2.2.2.2.2.2.1,x.2.2.2.2.2.2.2.1,x.2.2.2.2.2.2.2.2)).bind fun r14 =>
 bif (inb x.2.1.2.1 (List.length r14.2.2.2.2.2.1)) then
 (Z12 ((getAt (false,([]:List T7)) r14.2.2.2.2.2.1 (toN x.2.1.2.1)),x.1.1,(0:Int),r14.1)).bind fun r15 =>
 bif (inb x.2.1.2.1 (List.length r14.2.2.2.2.2.1)) then
 bif (Bool.not r15.2.1) then
 (Z39 (x.1.1,r14.2.1,r14.2.2.1,r14.2.2.2.1,r14.2.2.2.2.1,(List.set r14.2.2.2.2.2.1 (toN x.2.1.2.1) r15.1),r14.2.2.2.2.2.2.1,r14.2.2.2.2.2.2.2)).bind fun r16 =>
 some (r16.1,r16.2.1,r16.2.2.1,r16.2.2.2.1,r16.2.2.2.2.1,r16.2.2.2.2.2.1,r16.2.2.2.2.2.2)
 else
 (Z2c (x.1.1,x.2.1.2.1,r14.1,r14.2.1,r14.2.2.1,r14.2.2.2.1,r14.2.2.2.2.1,(List.set r14.2.2.2.2.2.1 (toN x.2.1.2.1) r15.1),r14.2.2.2.2.2.2.1,r14.2.2.2.2.2.2.2)).bind fun r16 =>
 some (r16.1,r16.2.1,r16.2.2.1,r16.2.2.2.1,r16.2.2.2.2.1,r16.2.2.2.2.2.1,r16.2.2.2.2.2.2)
 else
 none
 else
 none
abbrev Zsr:=Spec.shp Zjr Zo9 Z2a
def Zck:Ctx:=mC [(40,[],Zt6),(126,[],Zs5),(125,[],Zt8),(127,[],Zss)] [] 56 1
theorem Z2b:Sound Tryz.prog 69 (Zsr) :=
 tS Zck Tryz.f69 ⟨Z36,Z13,Z3a,Z2d,trivial⟩
abbrev Zj3:Shape:=⟨[(0,(.hole y15))],[],[y15],0⟩
abbrev Znl:Shape:=⟨[(0,(.hole y15)),(1,(.hole y5)),(2,(.hole .bool)),(3,(.hole (.int .i64)))],[],[y15,y5,.bool,(.int .i64)],0⟩
def Zy (x:(T18)):Option (T18 × T7 × Bool × Int) :=
 (Z10 x).bind fun r15 =>
 bif (Bool.not r15) then
 some ((false,([]:List T7)),((0:Int),(0:Int),(0:Int)),false,(1:Int))
 else
 bif (Bool.not x.1) then
 some ((false,([]:List T7)),((0:Int),(0:Int),(0:Int)),false,(6:Int))
 else
 bif ((((List.length x.2):Nat):Int) == (0:Int)) then
 some ((false,([]:List T7)),((0:Int),(0:Int),(0:Int)),false,(0:Int))
 else
 bif (sub3 (1:Int) (((List.length x.2):Nat):Int) (List.length x.2)) then
 (Z14 (cut x.2 (toN (1:Int)) ((toN (((List.length x.2):Nat):Int)) - (toN (1:Int))))).bind fun r16 =>
 bif (inb (0:Int) (List.length x.2)) then
 some (r16,(getAt ((0:Int),(0:Int),(0:Int)) x.2 (toN (0:Int))),true,(0:Int))
 else
 none
 else
 none
abbrev Zs3:=Spec.shp Zj3 Znl Zy
def Zbo:Ctx:=mC [(117,[],Zs4),(172,[],Zs6)] [] 34 0
theorem Zz:Sound Tryz.prog 128 (Zs3) :=
 tS Zbo Tryz.f128 ⟨Z11,Z15,trivial⟩
abbrev Zk7:Shape:=⟨sl_26,bl_2,ts_14,0⟩
abbrev Zop:Shape:=⟨[],bl_2,ts_11,1⟩
def Z37 (x:T60):Option T57 :=
 bif (inb x.2.1.2.1 (List.length x.2.2.2.2.2.2.1)) then
 (Zy (getAt (false,([]:List T7)) x.2.2.2.2.2.2.1 (toN x.2.1.2.1))).bind fun r14 =>
 bif (r14.2.2.2 != (0:Int)) then
 some (x.2.2.1,(x.2.2.2.1.1,(3:Int)),x.2.2.2.2.1,x.2.2.2.2.2.1,x.2.2.2.2.2.2.1,x.2.2.2.2.2.2.2.1,x.2.2.2.2.2.2.2.2)
 else
 bif (inb x.2.1.2.1 (List.length x.2.2.2.2.2.2.1)) then
 (Z35 (x.1.1,(12:Int),x.2.1.2.1,(0:Int),(Int.negSucc 0),x.2.2.1,x.2.2.2.1,x.2.2.2.2.1,x.2.2.2.2.2.1,(List.set x.2.2.2.2.2.2.1 (toN x.2.1.2.1) r14.1),x.2.2.2.2.2.2.2.1,x.2.2.2.2.2.2.2.2)).bind fun r15 =>
 (Z22 (x.1.1,r15.2.1,r15.2.2.1,r15.2.2.2.1,r15.2.2.2.2.1,r15.2.2.2.2.2.1,r15.2.2.2.2.2.2.1,r15.2.2.2.2.2.2.2)).bind fun r16 =>
 bif r14.2.2.1 then
 (Z2c (r14.2.1.1,x.2.1.2.1,r14.2.1.2.2,r16.1,r16.2.1,r16.2.2.1,r16.2.2.2.1,r16.2.2.2.2.1,r16.2.2.2.2.2.1,r16.2.2.2.2.2.2)).bind fun r17 =>
 some (r17.1,r17.2.1,r17.2.2.1,r17.2.2.2.1,r17.2.2.2.2.1,r17.2.2.2.2.2.1,r17.2.2.2.2.2.2)
 else
 some (r16.1,r16.2.1,r16.2.2.1,r16.2.2.2.1,r16.2.2.2.2.1,r16.2.2.2.2.2.1,r16.2.2.2.2.2.2)
 else
 none
 else
 none
abbrev Zt7:=Spec.shp Zk7 Zop Z37
def Zd2:Ctx:=mC [(128,[],Zs3),(40,[],Zt6),(120,[],Zsn),(127,[],Zss)] [] 59 1
theorem Z38:Sound Tryz.prog 70 (Zt7) :=
 tS Zd2 Tryz.f70 ⟨Zz,Z36,Z23,Z2d,trivial⟩
abbrev Zke:Shape:=⟨sl_30,[],[y23,y5],0⟩
abbrev Zow:Shape:=⟨sl_31,[],ts_15,0⟩
def Z3l (x:T30):Option T34 :=
 some (((1:Int),x.2.1,([]:List T7)),(0:Int),(0:Int))
abbrev Zte:=Spec.shp Zke Zow Z3l
def Zd9:Ctx:=mC [] [] 10 0
theorem Z3m:Sound Tryz.prog 173 (Zte) :=
 tS Zd9 Tryz.f173 trivial
abbrev Zkg:Shape:=⟨sl_30,[],[y23,y5],0⟩
abbrev Zoy:Shape:=⟨sl_31,[],ts_15,0⟩
def Z3p (x:T30):Option T34 :=
 bif (x.1.2.1 == x.2.1) then
 some (((0:Int),(0:Int),([]:List T7)),(0:Int),(6:Int))
 else
 (Z8y (x.1.2.2,x.2)).bind fun r18 =>
 bif (r18.2 != (0:Int)) then
 some (((0:Int),(0:Int),([]:List T7)),(0:Int),r18.2)
 else
 some ((x.1.1,x.1.2.1,r18.1),(1:Int),(0:Int))
abbrev Ztg:=Spec.shp Zkg Zoy Z3p
def Zdb:Ctx:=mC [(171,[],Zvz)] [] 29 0
theorem Z3q:Sound Tryz.prog 174 (Ztg) :=
 tS Zdb Tryz.f174 ⟨Z8z,trivial⟩
abbrev Zkf:Shape:=⟨sl_30,[],[y23,y5],0⟩
abbrev Zox:Shape:=⟨sl_31,[],ts_15,0⟩
def Z3n (x:T30):Option T34 :=
 some (x.1,(2:Int),(0:Int))
abbrev Ztf:=Spec.shp Zkf Zox Z3n
def Zda:Ctx:=mC [] [] 8 0
theorem Z3o:Sound Tryz.prog 175 (Ztf) :=
 tS Zda Tryz.f175 trivial
abbrev Zkb:Shape:=⟨sl_30,[],[y23,y5],0⟩
abbrev Zot:Shape:=⟨sl_31,[],ts_15,0⟩
def Z3f (x:T30):Option T34 :=
 (Z3j x.1).bind fun r16 =>
 bif (Bool.not r16) then
 some (((0:Int),(0:Int),([]:List T7)),(0:Int),(1:Int))
 else
 bif (decide (x.2.1 < (0:Int))) then
 some (((0:Int),(0:Int),([]:List T7)),(0:Int),(1:Int))
 else
 bif (decide (x.2.2.1 < (0:Int))) then
 some (((0:Int),(0:Int),([]:List T7)),(0:Int),(1:Int))
 else
 bif (decide (x.2.2.2 < (0:Int))) then
 some (((0:Int),(0:Int),([]:List T7)),(0:Int),(1:Int))
 else
 bif (x.1.1 == (((0:Nat):Nat):Int)) then
 (Z3l (x.1,x.2)).bind fun r17 =>
 some (r17.1,r17.2.1,r17.2.2)
 else
 bif (x.1.1 == ((((0:Nat)+(1:Nat)):Nat):Int)) then
 (Z3p (x.1,x.2)).bind fun r17 =>
 some (r17.1,r17.2.1,r17.2.2)
 else
 bif (x.1.1 == (((((0:Nat)+(1:Nat))+(1:Nat)):Nat):Int)) then
 (Z3n (x.1,x.2)).bind fun r17 =>
 some (r17.1,r17.2.1,r17.2.2)
 else
 none
abbrev Ztb:=Spec.shp Zkb Zot Z3f
def Zd6:Ctx:=mC [(118,[],Ztd),(173,[],Zte),(174,[],Ztg),(175,[],Ztf)] [] 42 0
theorem Z3g:Sound Tryz.prog 129 (Ztb) :=
 tS Zd6 Tryz.f129 ⟨Z3k,Z3m,Z3q,Z3o,trivial⟩
abbrev Zk5:Shape:=⟨sl_14,bl_2,[(.int .i64),(.int .i64),y39,y4,y18,y41,y19,y26,y27],0⟩
abbrev Zon:Shape:=⟨[],bl_2,ts_11,1⟩
def Z33 (x:(Int × Int × T47 × (Int × Int) × List (T17) × List T43 × List (T18) × List T29 × List (T20))):Option T57 :=
 (Z26 (x.1,x.2.2.1,x.2.2.2.1,x.2.2.2.2.1,x.2.2.2.2.2.1,x.2.2.2.2.2.2.1,x.2.2.2.2.2.2.2.1,x.2.2.2.2.2.2.2.2)).bind fun r17 =>
 (Z35 (x.1,(15:Int),r17.1.2.1,(0:Int),x.2.1,r17.2.1,r17.2.2.1,r17.2.2.2.1,r17.2.2.2.2.1,r17.2.2.2.2.2.1,r17.2.2.2.2.2.2.1,r17.2.2.2.2.2.2.2)).bind fun r18 =>
 (Z24 (x.1,r17.1.2.2,r18.2.1,r18.2.2.1,r18.2.2.2.1,r18.2.2.2.2.1,r18.2.2.2.2.2.1,r18.2.2.2.2.2.2.1,r18.2.2.2.2.2.2.2)).bind fun r19 =>
 some (r19.1,r19.2.1,r19.2.2.1,r19.2.2.2.1,r19.2.2.2.2.1,r19.2.2.2.2.2.1,r19.2.2.2.2.2.2)
abbrev Zt5:=Spec.shp Zk5 Zon Z33
def Zd0:Ctx:=mC [(78,[],Zsp),(40,[],Zt6),(41,[],Zso)] [] 21 1
theorem Z34:Sound Tryz.prog 130 (Zt5) :=
 tS Zd0 Tryz.f130 ⟨Z27,Z36,Z25,trivial⟩
abbrev Zjk:Shape:=⟨sl_26,bl_2,ts_14,0⟩
abbrev Zo2:Shape:=⟨[],bl_2,ts_11,1⟩
def Z1w (x:T60):Option T57 :=
 (Z35 (x.1.1,(13:Int),x.2.1.2.1,(0:Int),(Int.negSucc 0),x.2.2.1,x.2.2.2.1,x.2.2.2.2.1,x.2.2.2.2.2.1,x.2.2.2.2.2.2.1,x.2.2.2.2.2.2.2.1,x.2.2.2.2.2.2.2.2)).bind fun r14 =>
 bif (inb x.2.1.2.1 (List.length r14.2.2.2.2.2.2.1)) then
 (Z3f ((getAt ((0:Int),(0:Int),([]:List T7)) r14.2.2.2.2.2.2.1 (toN x.2.1.2.1)),x.1.1,(0:Int),r14.1)).bind fun r15 =>
 bif (r15.2.2 != (0:Int)) then
 (Z39 (x.1.1,r14.2.1,r14.2.2.1,r14.2.2.2.1,r14.2.2.2.2.1,r14.2.2.2.2.2.1,r14.2.2.2.2.2.2.1,r14.2.2.2.2.2.2.2)).bind fun r16 =>
 some (r16.1,r16.2.1,r16.2.2.1,r16.2.2.2.1,r16.2.2.2.2.1,r16.2.2.2.2.2.1,r16.2.2.2.2.2.2)
 else
 bif (inb x.2.1.2.1 (List.length r14.2.2.2.2.2.2.1)) then
 bif (r15.2.1 == (0:Int)) then
 (Z22 (x.1.1,r14.2.1,r14.2.2.1,r14.2.2.2.1,r14.2.2.2.2.1,r14.2.2.2.2.2.1,(List.set r14.2.2.2.2.2.2.1 (toN x.2.1.2.1) r15.1),r14.2.2.2.2.2.2.2)).bind fun r16 =>
 some (r16.1,r16.2.1,r16.2.2.1,r16.2.2.2.1,r16.2.2.2.2.1,r16.2.2.2.2.2.1,r16.2.2.2.2.2.2)
 else
 bif (r15.2.1 == (1:Int)) then
 (Z39 (x.1.1,r14.2.1,r14.2.2.1,r14.2.2.2.1,r14.2.2.2.2.1,r14.2.2.2.2.2.1,(List.set r14.2.2.2.2.2.2.1 (toN x.2.1.2.1) r15.1),r14.2.2.2.2.2.2.2)).bind fun r16 =>
 some (r16.1,r16.2.1,r16.2.2.1,r16.2.2.2.1,r16.2.2.2.2.1,r16.2.2.2.2.2.1,r16.2.2.2.2.2.2)
 else
 (Z33 (x.1.1,r14.1,r14.2.1,r14.2.2.1,r14.2.2.2.1,r14.2.2.2.2.1,r14.2.2.2.2.2.1,(List.set r14.2.2.2.2.2.2.1 (toN x.2.1.2.1) r15.1),r14.2.2.2.2.2.2.2)).bind fun r16 =>
 some (r16.1,r16.2.1,r16.2.2.1,r16.2.2.2.1,r16.2.2.2.2.1,r16.2.2.2.2.2.1,r16.2.2.2.2.2.2)
 else
 none
 else
 none
abbrev Zsk:=Spec.shp Zjk Zo2 Z1w
def Zcb:Ctx:=mC [(40,[],Zt6),(129,[],Ztb),(125,[],Zt8),(120,[],Zsn),(130,[],Zt5)] [] 67 1
theorem Z1x:Sound Tryz.prog 71 (Zsk) :=
 tS Zcb Tryz.f71 ⟨Z36,Z3g,Z3a,Z23,Z34,trivial⟩
abbrev Zkc:Shape:=⟨[(0,(.hole y23)),(1,(.hole (.int .i64)))],[],[y23,(.int .i64)],0⟩
abbrev Zou:Shape:=⟨[(0,(.hole y23)),(1,(.hole (.slice y5))),(2,(.hole (.int .i64)))],[],[y23,(.slice y5),(.int .i64)],0⟩
def Z3h (x:((Int × T13) × Int)):Option ((Int × T13) × List (T7) × Int) :=
 (Z3j x.1).bind fun r15 =>
 bif (Bool.not r15) then
 some (((0:Int),(0:Int),([]:List T7)),([]:List T7),(1:Int))
 else
 bif (decide (x.2 < (0:Int))) then
 some (((0:Int),(0:Int),([]:List T7)),([]:List T7),(1:Int))
 else
 bif (x.1.1 != (1:Int)) then
 some (((0:Int),(0:Int),([]:List T7)),([]:List T7),(6:Int))
 else
 bif (x.1.2.1 != x.2) then
 some (((0:Int),(0:Int),([]:List T7)),([]:List T7),(6:Int))
 else
 some (((2:Int),(0:Int),([]:List T7)),x.1.2.2,(0:Int))
abbrev Ztc:=Spec.shp Zkc Zou Z3h
def Zd7:Ctx:=mC [(118,[],Ztd)] [] 30 0
theorem Z3i:Sound Tryz.prog 131 (Ztc) :=
 tS Zd7 Tryz.f131 ⟨Z3k,trivial⟩
abbrev Zhw:Shape:=⟨[(0,(.ptr 0 [])),(52,(.hole (.slice y5))),(53,(.hole (.int .i64))),(54,(.hole (.int .i64)))],bl_2,[(.slice y5),(.int .i64),(.int .i64),y39,y4,y18,y41,y19,y26,y27],1⟩
abbrev Zgx:List (ETag × Shape):=[(.exit 0,⟨[],bl_2,ts_11,1⟩)]
def Z9o (x:(List (T7) × Int × Int × T47 × (Int × Int) × List (T17) × List T43 × List (T18) × List T29 × List (T20))):Option ((List (T7) × Int × Int × T47 × (Int × Int) × List (T17) × List T43 × List (T18) × List T29 × List (T20)) ⊕ (T57)) :=
 bif (decide (x.2.2.1 < x.2.1)) then
 bif (inb x.2.2.1 (List.length x.1)) then
 (Z33 ((getAt ((0:Int),(0:Int),(0:Int)) x.1 (toN x.2.2.1)).1,(getAt ((0:Int),(0:Int),(0:Int)) x.1 (toN x.2.2.1)).2.2,x.2.2.2.1,x.2.2.2.2.1,x.2.2.2.2.2.1,x.2.2.2.2.2.2.1,x.2.2.2.2.2.2.2.1,x.2.2.2.2.2.2.2.2.1,x.2.2.2.2.2.2.2.2.2)).bind fun r18 =>
 some (.inl (x.1,x.2.1,(IntKind.wrap .i64 (x.2.2.1+(1:Int))),r18.1,r18.2.1,r18.2.2.1,r18.2.2.2.1,r18.2.2.2.2.1,r18.2.2.2.2.2.1,r18.2.2.2.2.2.2))
 else
 none
 else
 some (.inr (x.2.2.2.1,x.2.2.2.2.1,x.2.2.2.2.2.1,x.2.2.2.2.2.2.1,x.2.2.2.2.2.2.2.1,x.2.2.2.2.2.2.2.2.1,x.2.2.2.2.2.2.2.2.2))
def Zcf:Ctx:=mC [(131,[],Ztc),(40,[],Zt6),(120,[],Zsn),(130,[],Zt5)] [] 65 1
theorem Z9p:CSound Tryz.prog ⟨65,1,true⟩ (.loop (loopOf 9 Tryz.f72)) (pieceSpec Zhw Zgx (loop Z9o)) :=
 tL Zcf 9 Tryz.f72 ⟨Z3i,Z36,Z23,Z34,trivial⟩
abbrev Zjm:Shape:=⟨sl_26,bl_2,ts_14,0⟩
abbrev Zo4:Shape:=⟨[],bl_2,ts_11,1⟩
def Z20 (x:T60):Option T57 :=
 bif (inb x.2.1.2.1 (List.length x.2.2.2.2.2.2.2.1)) then
 (Z3h ((getAt ((0:Int),(0:Int),([]:List T7)) x.2.2.2.2.2.2.2.1 (toN x.2.1.2.1)),x.1.1)).bind fun r14 =>
 bif (r14.2.2 != (0:Int)) then
 some (x.2.2.1,(x.2.2.2.1.1,(3:Int)),x.2.2.2.2.1,x.2.2.2.2.2.1,x.2.2.2.2.2.2.1,x.2.2.2.2.2.2.2.1,x.2.2.2.2.2.2.2.2)
 else
 bif (inb x.2.1.2.1 (List.length x.2.2.2.2.2.2.2.1)) then
 (Z35 (x.1.1,(14:Int),x.2.1.2.1,(0:Int),(Int.negSucc 0),x.2.2.1,x.2.2.2.1,x.2.2.2.2.1,x.2.2.2.2.2.1,x.2.2.2.2.2.2.1,(List.set x.2.2.2.2.2.2.2.1 (toN x.2.1.2.1) r14.1),x.2.2.2.2.2.2.2.2)).bind fun r15 =>
 (Z22 (x.1.1,r15.2.1,r15.2.2.1,r15.2.2.2.1,r15.2.2.2.2.1,r15.2.2.2.2.2.1,r15.2.2.2.2.2.2.1,r15.2.2.2.2.2.2.2)).bind fun r16 =>
 (loop Z9o (r14.2.1,(((List.length r14.2.1):Nat):Int),(0:Int),r16.1,r16.2.1,r16.2.2.1,r16.2.2.2.1,r16.2.2.2.2.1,r16.2.2.2.2.2.1,r16.2.2.2.2.2.2)).bind fun r17 =>
 some (r17.1,r17.2.1,r17.2.2.1,r17.2.2.2.1,r17.2.2.2.2.1,r17.2.2.2.2.2.1,r17.2.2.2.2.2.2)
 else
 none
 else
 none
abbrev Zsm:=Spec.shp Zjm Zo4 Z20
def Zce:Ctx:=mC [(131,[],Ztc),(40,[],Zt6),(120,[],Zsn),(130,[],Zt5)] [(0,9,pieceSpec Zhw Zgx (loop Z9o))] 65 1
theorem Z21:Sound Tryz.prog 72 (Zsm) :=
 tS Zce Tryz.f72 ⟨Z3i,Z36,Z23,Z34,trivial⟩ ⟨(pL 9 Tryz.f72 Z9p),trivial⟩
abbrev Zjj:Shape:=⟨sl_26,bl_2,ts_14,0⟩
abbrev Zo1:Shape:=⟨[],bl_2,ts_11,1⟩
def Z1u (x:T60):Option T57 :=
 bif ((((List.length x.2.2.2.2.1):Nat):Int) == (8:Int)) then
 some (x.2.2.1,(x.2.2.2.1.1,(4:Int)),x.2.2.2.2.1,x.2.2.2.2.2.1,x.2.2.2.2.2.2.1,x.2.2.2.2.2.2.2.1,x.2.2.2.2.2.2.2.2)
 else
 (Z35 (x.1.1,(1:Int),(((List.length x.2.2.2.2.1):Nat):Int),(0:Int),(Int.negSucc 0),x.2.2.1,x.2.2.2.1,x.2.2.2.2.1,x.2.2.2.2.2.1,x.2.2.2.2.2.2.1,x.2.2.2.2.2.2.2.1,x.2.2.2.2.2.2.2.2)).bind fun r14 =>
 (Z35 ((((List.length x.2.2.2.2.1):Nat):Int),(0:Int),(0:Int),(0:Int),r14.1,r14.2.1,r14.2.2.1,r14.2.2.2.1,r14.2.2.2.2.1,r14.2.2.2.2.2.1,r14.2.2.2.2.2.2.1,r14.2.2.2.2.2.2.2)).bind fun r15 =>
 bif (fits ((List.length r15.2.2.2.1)+(List.length ((x.2.1.2.1,(0:Int),(0:Int),false) :: ([]:List T17))))) then
 (Z24 ((((List.length x.2.2.2.2.1):Nat):Int),(0:Int),r15.2.1,r15.2.2.1,(r15.2.2.2.1++((x.2.1.2.1,(0:Int),(0:Int),false) :: ([]:List T17))),r15.2.2.2.2.1,r15.2.2.2.2.2.1,r15.2.2.2.2.2.2.1,r15.2.2.2.2.2.2.2)).bind fun r16 =>
 (Z22 (x.1.1,r16.1,r16.2.1,r16.2.2.1,r16.2.2.2.1,r16.2.2.2.2.1,r16.2.2.2.2.2.1,r16.2.2.2.2.2.2)).bind fun r17 =>
 some (r17.1,r17.2.1,r17.2.2.1,r17.2.2.2.1,r17.2.2.2.2.1,r17.2.2.2.2.2.1,r17.2.2.2.2.2.2)
 else
 none
abbrev Zsj:=Spec.shp Zjj Zo1 Z1u
def Zca:Ctx:=mC [(40,[],Zt6),(41,[],Zso),(120,[],Zsn)] [] 50 1
theorem Z1v:Sound Tryz.prog 73 (Zsj) :=
 tS Zca Tryz.f73 ⟨Z36,Z25,Z23,trivial⟩
abbrev Zjx:Shape:=⟨sl_26,bl_2,ts_14,0⟩
abbrev Zof:Shape:=⟨[],bl_2,ts_11,1⟩
def Z2m (x:T60):Option T57 :=
 (Z35 (x.1.1,(16:Int),x.2.1.2.1,(0:Int),(Int.negSucc 0),x.2.2.1,x.2.2.2.1,x.2.2.2.2.1,x.2.2.2.2.2.1,x.2.2.2.2.2.2.1,x.2.2.2.2.2.2.2.1,x.2.2.2.2.2.2.2.2)).bind fun r14 =>
 (Z22 (x.1.1,r14.2.1,r14.2.2.1,r14.2.2.2.1,r14.2.2.2.2.1,r14.2.2.2.2.2.1,r14.2.2.2.2.2.2.1,r14.2.2.2.2.2.2.2)).bind fun r15 =>
 some (r15.1,r15.2.1,r15.2.2.1,r15.2.2.2.1,r15.2.2.2.2.1,r15.2.2.2.2.2.1,r15.2.2.2.2.2.2)
abbrev Zsx:=Spec.shp Zjx Zof Z2m
def Zcq:Ctx:=mC [(40,[],Zt6),(120,[],Zsn)] [] 16 1
theorem Z2n:Sound Tryz.prog 74 (Zsx) :=
 tS Zcq Tryz.f74 ⟨Z36,Z23,trivial⟩
abbrev Zk9:Shape:=⟨sl_26,bl_2,ts_14,0⟩
abbrev Zor:Shape:=⟨[],bl_2,ts_11,1⟩
def Z3b (x:T60):Option T57 :=
 (Z35 (x.1.1,(17:Int),x.2.1.2.1,(0:Int),(Int.negSucc 0),x.2.2.1,x.2.2.2.1,x.2.2.2.2.1,x.2.2.2.2.2.1,x.2.2.2.2.2.2.1,x.2.2.2.2.2.2.2.1,x.2.2.2.2.2.2.2.2)).bind fun r14 =>
 (Z22 (x.1.1,r14.2.1,r14.2.2.1,r14.2.2.2.1,r14.2.2.2.2.1,r14.2.2.2.2.2.1,r14.2.2.2.2.2.2.1,r14.2.2.2.2.2.2.2)).bind fun r15 =>
 some (r15.1,r15.2.1,r15.2.2.1,r15.2.2.2.1,r15.2.2.2.2.1,r15.2.2.2.2.2.1,r15.2.2.2.2.2.2)
abbrev Zt9:=Spec.shp Zk9 Zor Z3b
def Zd4:Ctx:=mC [(40,[],Zt6),(120,[],Zsn)] [] 16 1
theorem Z3c:Sound Tryz.prog 75 (Zt9) :=
 tS Zd4 Tryz.f75 ⟨Z36,Z23,trivial⟩
abbrev Zjq:Shape:=⟨sl_26,bl_2,ts_14,0⟩
abbrev Zo8:Shape:=⟨[],bl_2,ts_11,1⟩
def Z28 (x:T60):Option T57 :=
 (Z24 (x.1.1,x.2.1.2.1,x.2.2.1,x.2.2.2.1,x.2.2.2.2.1,x.2.2.2.2.2.1,x.2.2.2.2.2.2.1,x.2.2.2.2.2.2.2.1,x.2.2.2.2.2.2.2.2)).bind fun r14 =>
 some (r14.1,r14.2.1,r14.2.2.1,r14.2.2.2.1,r14.2.2.2.2.1,r14.2.2.2.2.2.1,r14.2.2.2.2.2.2)
abbrev Zsq:=Spec.shp Zjq Zo8 Z28
def Zcj:Ctx:=mC [(41,[],Zso)] [] 12 1
theorem Z29:Sound Tryz.prog 76 (Zsq) :=
 tS Zcj Tryz.f76 ⟨Z25,trivial⟩
abbrev Zjv:Shape:=⟨sl_26,bl_2,ts_14,0⟩
abbrev Zod:Shape:=⟨[],bl_2,ts_11,1⟩
def Z2i (x:T60):Option T57 :=
 bif (inb x.1.1 (List.length x.2.2.2.2.1)) then
 bif (getAt ((0:Int),(0:Int),(0:Int),false) x.2.2.2.2.1 (toN x.1.1)).2.2.2 then
 (Z28 (x.1,x.2.1,x.2.2.1,x.2.2.2.1,x.2.2.2.2.1,x.2.2.2.2.2.1,x.2.2.2.2.2.2.1,x.2.2.2.2.2.2.2.1,x.2.2.2.2.2.2.2.2)).bind fun r14 =>
 some (r14.1,r14.2.1,r14.2.2.1,r14.2.2.2.1,r14.2.2.2.2.1,r14.2.2.2.2.2.1,r14.2.2.2.2.2.2)
 else
 (Z22 (x.1.1,x.2.2.1,x.2.2.2.1,x.2.2.2.2.1,x.2.2.2.2.2.1,x.2.2.2.2.2.2.1,x.2.2.2.2.2.2.2.1,x.2.2.2.2.2.2.2.2)).bind fun r14 =>
 some (r14.1,r14.2.1,r14.2.2.1,r14.2.2.2.1,r14.2.2.2.2.1,r14.2.2.2.2.2.1,r14.2.2.2.2.2.2)
 else
 none
abbrev Zsv:=Spec.shp Zjv Zod Z2i
def Zco:Ctx:=mC [(76,[],Zsq),(120,[],Zsn)] [] 24 1
theorem Z2j:Sound Tryz.prog 77 (Zsv) :=
 tS Zco Tryz.f77 ⟨Z29,Z23,trivial⟩
abbrev Zj9:Shape:=⟨[(0,(.hole y45)),(1,(.hole y4))],[],[y45,y4],0⟩
abbrev Znr:Shape:=⟨[(0,(.hole y45)),(1,(.hole y27)),(2,(.hole (.int .i64)))],[],[y45,y27,(.int .i64)],0⟩
def Z1a (x:((T47 × T61) × (Int × Int))):Option ((T47 × T61) × List (T20) × Int) :=
 (Z16 x.1).bind fun r6 =>
 (Z6o (r6,x.2)).bind fun r7 =>
 bif (Bool.not r7) then
 some (((([]:List Int),(0:Int),(0:Int),(0:Int),([]:List T21),([]:List (List T7))),([]:List T17),([]:List (Int × T41)),([]:List T22),([]:List (Int × T14)),(0:Int),(0:Int)),([]:List T20),(4:Int))
 else
 (Z5y x.1.2.1).bind fun r8 =>
 (Z5u x.1.2.2.1).bind fun r9 =>
 (Z60 x.1.2.2.2.1).bind fun r10 =>
 (Z62 x.1.2.2.2.2.1).bind fun r11 =>
 (Z26 (x.2.1,x.1.1,x.1.2.2.2.2.2,r8,r9,r10,r11,([]:List T20))).bind fun r12 =>
 bif (r12.1.1 == (((0:Nat):Nat):Int)) then
 (Z2e (x.2,r12.1,r12.2.1,r12.2.2.1,r12.2.2.2.1,r12.2.2.2.2.1,r12.2.2.2.2.2.1,r12.2.2.2.2.2.2.1,r12.2.2.2.2.2.2.2)).bind fun r13 =>
 (Z2u (r13.1,r13.2.1,r13.2.2.1,r13.2.2.2.1,r13.2.2.2.2.1,r13.2.2.2.2.2.1,r13.2.2.2.2.2.2)).bind fun r14 =>
 some ((r14.1,r14.2.2.1,r14.2.2.2.1,r14.2.2.2.2.1,r14.2.2.2.2.2.1,r14.2.1),r14.2.2.2.2.2.2,(0:Int))
 else
 bif (r12.1.1 == ((((0:Nat)+(1:Nat)):Nat):Int)) then
 (Z2s (x.2,r12.1,r12.2.1,r12.2.2.1,r12.2.2.2.1,r12.2.2.2.2.1,r12.2.2.2.2.2.1,r12.2.2.2.2.2.2.1,r12.2.2.2.2.2.2.2)).bind fun r13 =>
 (Z2u (r13.1,r13.2.1,r13.2.2.1,r13.2.2.2.1,r13.2.2.2.2.1,r13.2.2.2.2.2.1,r13.2.2.2.2.2.2)).bind fun r14 =>
 some ((r14.1,r14.2.2.1,r14.2.2.2.1,r14.2.2.2.2.1,r14.2.2.2.2.2.1,r14.2.1),r14.2.2.2.2.2.2,(0:Int))
 else
 bif (r12.1.1 == (((((0:Nat)+(1:Nat))+(1:Nat)):Nat):Int)) then
 (Z2o (x.2,r12.1,r12.2.1,r12.2.2.1,r12.2.2.2.1,r12.2.2.2.2.1,r12.2.2.2.2.2.1,r12.2.2.2.2.2.2.1,r12.2.2.2.2.2.2.2)).bind fun r13 =>
 (Z2u (r13.1,r13.2.1,r13.2.2.1,r13.2.2.2.1,r13.2.2.2.2.1,r13.2.2.2.2.2.1,r13.2.2.2.2.2.2)).bind fun r14 =>
 some ((r14.1,r14.2.2.1,r14.2.2.2.1,r14.2.2.2.2.1,r14.2.2.2.2.2.1,r14.2.1),r14.2.2.2.2.2.2,(0:Int))
 else
 bif (r12.1.1 == ((((((0:Nat)+(1:Nat))+(1:Nat))+(1:Nat)):Nat):Int)) then
 (Z31 (x.2,r12.1,r12.2.1,r12.2.2.1,r12.2.2.2.1,r12.2.2.2.2.1,r12.2.2.2.2.2.1,r12.2.2.2.2.2.2.1,r12.2.2.2.2.2.2.2)).bind fun r13 =>
 (Z2u (r13.1,r13.2.1,r13.2.2.1,r13.2.2.2.1,r13.2.2.2.2.1,r13.2.2.2.2.2.1,r13.2.2.2.2.2.2)).bind fun r14 =>
 some ((r14.1,r14.2.2.1,r14.2.2.2.1,r14.2.2.2.2.1,r14.2.2.2.2.2.1,r14.2.1),r14.2.2.2.2.2.2,(0:Int))
 else
 bif (r12.1.1 == (((((((0:Nat)+(1:Nat))+(1:Nat))+(1:Nat))+(1:Nat)):Nat):Int)) then
 (Z2q (x.2,r12.1,r12.2.1,r12.2.2.1,r12.2.2.2.1,r12.2.2.2.2.1,r12.2.2.2.2.2.1,r12.2.2.2.2.2.2.1,r12.2.2.2.2.2.2.2)).bind fun r13 =>
 (Z2u (r13.1,r13.2.1,r13.2.2.1,r13.2.2.2.1,r13.2.2.2.2.1,r13.2.2.2.2.2.1,r13.2.2.2.2.2.2)).bind fun r14 =>
 some ((r14.1,r14.2.2.1,r14.2.2.2.1,r14.2.2.2.2.1,r14.2.2.2.2.2.1,r14.2.1),r14.2.2.2.2.2.2,(0:Int))
 else
 bif (r12.1.1 == ((((((((0:Nat)+(1:Nat))+(1:Nat))+(1:Nat))+(1:Nat))+(1:Nat)):Nat):Int)) then
 (Z2a (x.2,r12.1,r12.2.1,r12.2.2.1,r12.2.2.2.1,r12.2.2.2.2.1,r12.2.2.2.2.2.1,r12.2.2.2.2.2.2.1,r12.2.2.2.2.2.2.2)).bind fun r13 =>
 (Z2u (r13.1,r13.2.1,r13.2.2.1,r13.2.2.2.1,r13.2.2.2.2.1,r13.2.2.2.2.2.1,r13.2.2.2.2.2.2)).bind fun r14 =>
 some ((r14.1,r14.2.2.1,r14.2.2.2.1,r14.2.2.2.2.1,r14.2.2.2.2.2.1,r14.2.1),r14.2.2.2.2.2.2,(0:Int))
 else
 bif (r12.1.1 == (((((((((0:Nat)+(1:Nat))+(1:Nat))+(1:Nat))+(1:Nat))+(1:Nat))+(1:Nat)):Nat):Int)) then
 (Z37 (x.2,r12.1,r12.2.1,r12.2.2.1,r12.2.2.2.1,r12.2.2.2.2.1,r12.2.2.2.2.2.1,r12.2.2.2.2.2.2.1,r12.2.2.2.2.2.2.2)).bind fun r13 =>
 (Z2u (r13.1,r13.2.1,r13.2.2.1,r13.2.2.2.1,r13.2.2.2.2.1,r13.2.2.2.2.2.1,r13.2.2.2.2.2.2)).bind fun r14 =>
 some ((r14.1,r14.2.2.1,r14.2.2.2.1,r14.2.2.2.2.1,r14.2.2.2.2.2.1,r14.2.1),r14.2.2.2.2.2.2,(0:Int))
 else
 bif (r12.1.1 == ((((((((((0:Nat)+(1:Nat))+(1:Nat))+(1:Nat))+(1:Nat))+(1:Nat))+(1:Nat))+(1:Nat)):Nat):Int)) then
 (Z1w (x.2,r12.1,r12.2.1,r12.2.2.1,r12.2.2.2.1,r12.2.2.2.2.1,r12.2.2.2.2.2.1,r12.2.2.2.2.2.2.1,r12.2.2.2.2.2.2.2)).bind fun r13 =>
 (Z2u (r13.1,r13.2.1,r13.2.2.1,r13.2.2.2.1,r13.2.2.2.2.1,r13.2.2.2.2.2.1,r13.2.2.2.2.2.2)).bind fun r14 =>
 some ((r14.1,r14.2.2.1,r14.2.2.2.1,r14.2.2.2.2.1,r14.2.2.2.2.2.1,r14.2.1),r14.2.2.2.2.2.2,(0:Int))
 else
 bif (r12.1.1 == (((((((((((0:Nat)+(1:Nat))+(1:Nat))+(1:Nat))+(1:Nat))+(1:Nat))+(1:Nat))+(1:Nat))+(1:Nat)):Nat):Int)) then
 (Z20 (x.2,r12.1,r12.2.1,r12.2.2.1,r12.2.2.2.1,r12.2.2.2.2.1,r12.2.2.2.2.2.1,r12.2.2.2.2.2.2.1,r12.2.2.2.2.2.2.2)).bind fun r13 =>
 (Z2u (r13.1,r13.2.1,r13.2.2.1,r13.2.2.2.1,r13.2.2.2.2.1,r13.2.2.2.2.2.1,r13.2.2.2.2.2.2)).bind fun r14 =>
 some ((r14.1,r14.2.2.1,r14.2.2.2.1,r14.2.2.2.2.1,r14.2.2.2.2.2.1,r14.2.1),r14.2.2.2.2.2.2,(0:Int))
 else
 bif (r12.1.1 == ((((((((((((0:Nat)+(1:Nat))+(1:Nat))+(1:Nat))+(1:Nat))+(1:Nat))+(1:Nat))+(1:Nat))+(1:Nat))+(1:Nat)):Nat):Int)) then
 (Z1u (x.2,r12.1,r12.2.1,r12.2.2.1,r12.2.2.2.1,r12.2.2.2.2.1,r12.2.2.2.2.2.1,r12.2.2.2.2.2.2.1,r12.2.2.2.2.2.2.2)).bind fun r13 =>
 (Z2u (r13.1,r13.2.1,r13.2.2.1,r13.2.2.2.1,r13.2.2.2.2.1,r13.2.2.2.2.2.1,r13.2.2.2.2.2.2)).bind fun r14 =>
 some ((r14.1,r14.2.2.1,r14.2.2.2.1,r14.2.2.2.2.1,r14.2.2.2.2.2.1,r14.2.1),r14.2.2.2.2.2.2,(0:Int))
 else
 bif (r12.1.1 == (((((((((((((0:Nat)+(1:Nat))+(1:Nat))+(1:Nat))+(1:Nat))+(1:Nat))+(1:Nat))+(1:Nat))+(1:Nat))+(1:Nat))+(1:Nat)):Nat):Int)) then
 (Z2m (x.2,r12.1,r12.2.1,r12.2.2.1,r12.2.2.2.1,r12.2.2.2.2.1,r12.2.2.2.2.2.1,r12.2.2.2.2.2.2.1,r12.2.2.2.2.2.2.2)).bind fun r13 =>
 (Z2u (r13.1,r13.2.1,r13.2.2.1,r13.2.2.2.1,r13.2.2.2.2.1,r13.2.2.2.2.2.1,r13.2.2.2.2.2.2)).bind fun r14 =>
 some ((r14.1,r14.2.2.1,r14.2.2.2.1,r14.2.2.2.2.1,r14.2.2.2.2.2.1,r14.2.1),r14.2.2.2.2.2.2,(0:Int))
 else
 bif (r12.1.1 == ((((((((((((((0:Nat)+(1:Nat))+(1:Nat))+(1:Nat))+(1:Nat))+(1:Nat))+(1:Nat))+(1:Nat))+(1:Nat))+(1:Nat))+(1:Nat))+(1:Nat)):Nat):Int)) then
 (Z3b (x.2,r12.1,r12.2.1,r12.2.2.1,r12.2.2.2.1,r12.2.2.2.2.1,r12.2.2.2.2.2.1,r12.2.2.2.2.2.2.1,r12.2.2.2.2.2.2.2)).bind fun r13 =>
 (Z2u (r13.1,r13.2.1,r13.2.2.1,r13.2.2.2.1,r13.2.2.2.2.1,r13.2.2.2.2.2.1,r13.2.2.2.2.2.2)).bind fun r14 =>
 some ((r14.1,r14.2.2.1,r14.2.2.2.1,r14.2.2.2.2.1,r14.2.2.2.2.2.1,r14.2.1),r14.2.2.2.2.2.2,(0:Int))
 else
 bif (r12.1.1 == (((((((((((((((0:Nat)+(1:Nat))+(1:Nat))+(1:Nat))+(1:Nat))+(1:Nat))+(1:Nat))+(1:Nat))+(1:Nat))+(1:Nat))+(1:Nat))+(1:Nat))+(1:Nat)):Nat):Int)) then
 (Z28 (x.2,r12.1,r12.2.1,r12.2.2.1,r12.2.2.2.1,r12.2.2.2.2.1,r12.2.2.2.2.2.1,r12.2.2.2.2.2.2.1,r12.2.2.2.2.2.2.2)).bind fun r13 =>
 (Z2u (r13.1,r13.2.1,r13.2.2.1,r13.2.2.2.1,r13.2.2.2.2.1,r13.2.2.2.2.2.1,r13.2.2.2.2.2.2)).bind fun r14 =>
 some ((r14.1,r14.2.2.1,r14.2.2.2.1,r14.2.2.2.2.1,r14.2.2.2.2.2.1,r14.2.1),r14.2.2.2.2.2.2,(0:Int))
 else
 bif (r12.1.1 == ((((((((((((((((0:Nat)+(1:Nat))+(1:Nat))+(1:Nat))+(1:Nat))+(1:Nat))+(1:Nat))+(1:Nat))+(1:Nat))+(1:Nat))+(1:Nat))+(1:Nat))+(1:Nat))+(1:Nat)):Nat):Int)) then
 (Z2i (x.2,r12.1,r12.2.1,r12.2.2.1,r12.2.2.2.1,r12.2.2.2.2.1,r12.2.2.2.2.2.1,r12.2.2.2.2.2.2.1,r12.2.2.2.2.2.2.2)).bind fun r13 =>
 (Z2u (r13.1,r13.2.1,r13.2.2.1,r13.2.2.2.1,r13.2.2.2.2.1,r13.2.2.2.2.2.1,r13.2.2.2.2.2.2)).bind fun r14 =>
 some ((r14.1,r14.2.2.1,r14.2.2.2.1,r14.2.2.2.2.1,r14.2.2.2.2.2.1,r14.2.1),r14.2.2.2.2.2.2,(0:Int))
 else
 none
abbrev Zs9:=Spec.shp Zj9 Znr Z1a
def Zbw:Ctx:=mC [(22,[],Zs7),(59,[],Zuw),(60,[],Zuj),(61,[],Zuh),(62,[],Zuk),(63,[],Zul),(78,[],Zsp),(64,[],Zst),(42,[],Zt1),(65,[],Zt0),(66,[],Zsy),(67,[],Zt4),(68,[],Zsz),(69,[],Zsr),(70,[],Zt7),(71,[],Zsk),(72,[],Zsm),(73,[],Zsj),(74,[],Zsx),(75,[],Zt9),(76,[],Zsq),(77,[],Zsv)] [] 70 0
theorem Z1b:Sound Tryz.prog 23 (Zs9) :=
 tS Zbw Tryz.f23 ⟨Z17,Z6p,Z5z,Z5v,Z61,Z63,Z27,Z2f,Z30,Z2t,Z2p,Z32,Z2r,Z2b,Z38,Z1x,Z21,Z1v,Z2n,Z3c,Z29,Z2j,trivial⟩
abbrev Zkm:Shape:=⟨sl_6,[],[y39],0⟩
abbrev Zp4:Shape:=⟨sl_1,[],ts_1,0⟩
def Z42 (x:(T47)):Option (Bool) :=
 bif (decide ((((List.length x.1):Nat):Int) > (4:Int))) then
 some true
 else
 bif (decide (x.2.1 < (0:Int))) then
 some true
 else
 bif (decide (x.2.1 > (2:Int))) then
 some true
 else
 bif (decide (x.2.2.1 < (0:Int))) then
 some true
 else
 bif (decide (x.2.2.1 > (2:Int))) then
 some true
 else
 bif (decide (x.2.2.2.1 < (0:Int))) then
 some true
 else
 bif (decide (x.2.2.2.1 > (4:Int))) then
 some true
 else
 bif (decide ((((List.length x.2.2.2.2.1):Nat):Int) > (4:Int))) then
 some true
 else
 bif (decide ((((List.length x.2.2.2.2.2):Nat):Int) < (1:Int))) then
 some true
 else
 some (decide ((((List.length x.2.2.2.2.2):Nat):Int) > (6:Int)))
abbrev Ztm:=Spec.shp Zkm Zp4 Z42
def Zdk:Ctx:=mC [] [] 55 0
theorem Z43:Sound Tryz.prog 157 (Ztm) :=
 tS Zdk Tryz.f157 trivial
abbrev Zi3:Shape:=⟨[(1,(.ptr 0 [])),(13,(.hole y0)),(14,(.hole (.int .i64))),(15,(.hole (.int .i64)))],bl_0,[y0,(.int .i64),(.int .i64),y39],0⟩
abbrev Zh4:List (ETag × Shape):=[(.ret,⟨sl_5,[],ts_5,0⟩),(.exit 0,⟨[(1,(.ptr 0 []))],bl_0,[y39],0⟩)]
def Za3 (x:(List Int × Int × Int × T47)):Option ((List Int × Int × Int × T47) ⊕ ((Int × Int) ⊕ (T47))) :=
 bif (decide (x.2.2.1 < x.2.1)) then
 bif (inb x.2.2.1 (List.length x.1)) then
 bif (decide ((getAt (0:Int) x.1 (toN x.2.2.1)) < (Int.negSucc 0))) then
 some (.inr (.inl ((Int.negSucc 0),(3:Int))))
 else
 bif (decide ((getAt (0:Int) x.1 (toN x.2.2.1)) > (3:Int))) then
 some (.inr (.inl ((Int.negSucc 0),(3:Int))))
 else
 some (.inl (x.1,x.2.1,(IntKind.wrap .i64 (x.2.2.1+(1:Int))),x.2.2.2))
 else
 none
 else
 some (.inr (.inr x.2.2.2))
def Zdo:Ctx:=mC [(157,[],Ztm)] [] 60 0
theorem Za4:CSound Tryz.prog ⟨60,0,true⟩ (.loop (loopOf 5 Tryz.f97)) (pieceSpec Zi3 Zh4 (loop Za3)) :=
 tL Zdo 5 Tryz.f97 ⟨Z43,trivial⟩
abbrev Zi2:Shape:=⟨[(1,(.ptr 0 [])),(6,(.hole (.int .i64))),(27,(.hole (.slice y9))),(28,(.hole (.int .i64))),(29,(.hole (.int .i64))),(40,(.hole (.slice y2))),(41,(.hole (.int .i64))),(42,(.hole (.int .i64)))],bl_0,[(.int .i64),(.slice y9),(.int .i64),(.int .i64),(.slice y2),(.int .i64),(.int .i64),y39],0⟩
abbrev Zh3:List (ETag × Shape):=[(.ret,⟨sl_5,[],ts_5,0⟩),(.exit 4,⟨sl_34,bl_0,ts_4,0⟩)]
def Za1 (x:(Int × List (T12) × Int × Int × List T0 × Int × Int × T47)):Option ((Int × List (T12) × Int × Int × List T0 × Int × Int × T47) ⊕ ((Int × Int) ⊕ T53)) :=
 bif (decide (x.2.2.2.2.2.2.1 < x.2.2.2.2.2.1)) then
 bif (inb x.2.2.2.2.2.2.1 (List.length x.2.2.2.2.1)) then
 bif (decide ((getAt (false,(0:Int)) x.2.2.2.2.1 (toN x.2.2.2.2.2.2.1)).2 < (0:Int))) then
 some (.inr (.inl (x.1,(3:Int))))
 else
 bif (decide ((getAt (false,(0:Int)) x.2.2.2.2.1 (toN x.2.2.2.2.2.2.1)).2 ≥ (((List.length x.2.2.2.2.2.2.2.1):Nat):Int))) then
 some (.inr (.inl (x.1,(3:Int))))
 else
 some (.inl (x.1,x.2.1,x.2.2.1,x.2.2.2.1,x.2.2.2.2.1,x.2.2.2.2.2.1,(IntKind.wrap .i64 (x.2.2.2.2.2.2.1+(1:Int))),x.2.2.2.2.2.2.2))
 else
 none
 else
 some (.inr (.inr (x.2.1,x.2.2.1,x.2.2.2.1,x.2.2.2.2.2.2.2)))
def Zdn:Ctx:=mC [(157,[],Ztm)] [(0,5,pieceSpec Zi3 Zh4 (loop Za3))] 60 0
theorem Za2:CSound Tryz.prog ⟨60,0,true⟩ (.loop (loopOf 16 Tryz.f97)) (pieceSpec Zi2 Zh3 (loop Za1)) :=
 tL Zdn 16 Tryz.f97 ⟨Z43,trivial⟩ ⟨pN,trivial⟩
abbrev Zi1:Shape:=⟨sl_34,bl_0,ts_4,0⟩
abbrev Zh2:List (ETag × Shape):=[(.ret,⟨sl_5,[],ts_5,0⟩),(.exit 2,⟨[],[],[],0⟩)]
def Z9z (x:T53):Option (T53 ⊕ ((Int × Int) ⊕ Unit)) :=
 bif (decide (x.2.2.1 < x.2.1)) then
 bif (inb x.2.2.1 (List.length x.1)) then
 bif (decide ((((List.length (getAt (([]:List T0),false) x.1 (toN x.2.2.1)).1):Nat):Int) > (4:Int))) then
 some (.inr (.inl (x.2.2.1,(2:Int))))
 else
 (loop Za1 (x.2.2.1,x.1,x.2.1,x.2.2.1,(getAt (([]:List T0),false) x.1 (toN x.2.2.1)).1,(((List.length (getAt (([]:List T0),false) x.1 (toN x.2.2.1)).1):Nat):Int),(0:Int),x.2.2.2)).bind fun r10 =>
 match r10 with
 | .inl y11 =>
 some (.inr (.inl (y11.1,y11.2)))
 | .inr y11 =>
 some (.inl (y11.1,y11.2.1,(IntKind.wrap .i64 (y11.2.2.1+(1:Int))),y11.2.2.2))
 else
 none
 else
 some (.inr (.inr ()))
def Zdm:Ctx:=mC [(157,[],Ztm)] [(0,5,pieceSpec Zi3 Zh4 (loop Za3)),(0,16,pieceSpec Zi2 Zh3 (loop Za1))] 60 0
theorem Za0:CSound Tryz.prog ⟨60,0,true⟩ (.loop (loopOf 11 Tryz.f97)) (pieceSpec Zi1 Zh2 (loop Z9z)) :=
 tL Zdm 11 Tryz.f97 ⟨Z43,trivial⟩ ⟨pN,(pL 16 Tryz.f97 Za2),trivial⟩
abbrev Zkn:Shape:=⟨sl_6,[],[y39],0⟩
abbrev Zp5:Shape:=⟨sl_7,[],ts_5,0⟩
def Z44 (x:(T47)):Option (Int × Int) :=
 (Z42 x).bind fun r6 =>
 bif r6 then
 some ((Int.negSucc 0),(2:Int))
 else
 (loop Za3 (x.1,(((List.length x.1):Nat):Int),(0:Int),x)).bind fun r7 =>
 match r7 with
 | .inl y8 =>
 some (y8.1,y8.2)
 | .inr y8 =>
 (loop Z9z (y8.2.2.2.2.1,(((List.length y8.2.2.2.2.1):Nat):Int),(0:Int),y8)).bind fun r9 =>
 match r9 with
 | .inl y10 =>
 some (y10.1,y10.2)
 | .inr y10 =>
 some ((Int.negSucc 0),(0:Int))
abbrev Ztn:=Spec.shp Zkn Zp5 Z44
def Zdl:Ctx:=mC [(157,[],Ztm)] [(0,5,pieceSpec Zi3 Zh4 (loop Za3)),(0,16,pieceSpec Zi2 Zh3 (loop Za1)),(0,11,pieceSpec Zi1 Zh2 (loop Z9z))] 60 0
theorem Z45:Sound Tryz.prog 97 (Ztn) :=
 tS Zdl Tryz.f97 ⟨Z43,trivial⟩ ⟨(pL 5 Tryz.f97 Za4),(pL 16 Tryz.f97 Za2),(pL 11 Tryz.f97 Za0),trivial⟩
abbrev Zkl:Shape:=⟨[(0,(.hole y39)),(1,(.hole (.int .i64))),(2,(.hole (.slice y5)))],[],[y39,(.int .i64),(.slice y5)],0⟩
abbrev Zp3:Shape:=⟨sl_2,[],ts_2,0⟩
def Z40 (x:(T47 × Int × List (T7))):Option (Int) :=
 bif (decide (x.2.1 ≥ (1:Int))) then
 bif (decide (x.2.1 ≤ (3:Int))) then
 some (((List.length x.1.1):Nat):Int)
 else
 bif (x.2.1 == (4:Int)) then
 some (((List.length x.1.2.2.2.2.1):Nat):Int)
 else
 bif (x.2.1 == (5:Int)) then
 some x.1.2.1
 else
 bif (x.2.1 == (6:Int)) then
 some x.1.2.1
 else
 bif (x.2.1 == (7:Int)) then
 some x.1.2.2.1
 else
 bif (x.2.1 == (8:Int)) then
 some x.1.2.2.1
 else
 bif (x.2.1 == (9:Int)) then
 some (((List.length x.1.2.2.2.2.2):Nat):Int)
 else
 bif (x.2.1 == (10:Int)) then
 some x.1.2.2.2.1
 else
 bif (x.2.1 == (11:Int)) then
 some x.1.2.2.2.1
 else
 bif (decide (x.2.1 ≥ (12:Int))) then
 some (IntKind.wrap .i64 ((((List.length x.2.2):Nat):Int)+(1:Int)))
 else
 some (1:Int)
 else
 bif (x.2.1 == (4:Int)) then
 some (((List.length x.1.2.2.2.2.1):Nat):Int)
 else
 bif (x.2.1 == (5:Int)) then
 some x.1.2.1
 else
 bif (x.2.1 == (6:Int)) then
 some x.1.2.1
 else
 bif (x.2.1 == (7:Int)) then
 some x.1.2.2.1
 else
 bif (x.2.1 == (8:Int)) then
 some x.1.2.2.1
 else
 bif (x.2.1 == (9:Int)) then
 some (((List.length x.1.2.2.2.2.2):Nat):Int)
 else
 bif (x.2.1 == (10:Int)) then
 some x.1.2.2.2.1
 else
 bif (x.2.1 == (11:Int)) then
 some x.1.2.2.2.1
 else
 bif (decide (x.2.1 ≥ (12:Int))) then
 some (IntKind.wrap .i64 ((((List.length x.2.2):Nat):Int)+(1:Int)))
 else
 some (1:Int)
abbrev Ztl:=Spec.shp Zkl Zp3 Z40
def Zdj:Ctx:=mC [] [] 55 0
theorem Z41:Sound Tryz.prog 158 (Ztl) :=
 tS Zdj Tryz.f158 trivial
abbrev Zkk:Shape:=⟨[(0,(.hole y39)),(1,(.hole (.slice y5))),(2,(.hole y5))],[],[y39,(.slice y5),y5],0⟩
abbrev Zp2:Shape:=⟨sl_2,[],ts_2,0⟩
def Z3y (x:(T47 × List (T7) × T7)):Option (Int) :=
 bif (decide (x.2.2.1 < (0:Int))) then
 some (11:Int)
 else
 bif (decide (x.2.2.1 > (13:Int))) then
 some (11:Int)
 else
 bif (decide (x.2.2.2.1 < (0:Int))) then
 some (3:Int)
 else
 (Z40 (x.1,x.2.2.1,x.2.1)).bind fun r9 =>
 bif (decide (x.2.2.2.1 ≥ r9)) then
 some (3:Int)
 else
 bif (decide (x.2.2.2.2 < (0:Int))) then
 some (3:Int)
 else
 bif (x.2.2.1 == (7:Int)) then
 bif (decide (x.2.2.2.2 > (((List.length x.2.1):Nat):Int))) then
 some (3:Int)
 else
 bif (x.2.2.1 != (7:Int)) then
 bif (x.2.2.2.2 != (0:Int)) then
 some (3:Int)
 else
 some (0:Int)
 else
 some (0:Int)
 else
 bif (x.2.2.1 != (7:Int)) then
 bif (x.2.2.2.2 != (0:Int)) then
 some (3:Int)
 else
 some (0:Int)
 else
 some (0:Int)
abbrev Ztk:=Spec.shp Zkk Zp2 Z3y
def Zdi:Ctx:=mC [(158,[],Ztl)] [] 53 0
theorem Z3z:Sound Tryz.prog 98 (Ztk) :=
 tS Zdi Tryz.f98 ⟨Z41,trivial⟩
abbrev Zhz:Shape:=⟨sl_9,bl_0,ts_7,0⟩
abbrev Zh0:List (ETag × Shape):=[(.ret,⟨sl_10,[],ts_0,0⟩),(.exit 2,⟨sl_11,bl_0,ts_8,0⟩)]
def Z9v (x:T56):Option (T56 ⊕ (T4 ⊕ T54)) :=
 bif (decide (x.2.2.2.2.2.2.2.1 < x.2.2.2.2.2.2.1)) then
 bif (inb x.2.2.2.2.2.2.2.1 (List.length x.2.2.2.2.2.1)) then
 (Z3y (x.2.2.2.2.2.2.2.2,x.2.1,(getAt ((0:Int),(0:Int),(0:Int)) x.2.2.2.2.2.1 (toN x.2.2.2.2.2.2.2.1)))).bind fun r8 =>
 bif (r8 != (0:Int)) then
 some (.inr (.inl (x.1,x.2.2.2.2.2.2.2.1,r8)))
 else
 some (.inl (x.1,x.2.1,x.2.2.1,x.2.2.2.1,x.2.2.2.2.1,x.2.2.2.2.2.1,x.2.2.2.2.2.2.1,(IntKind.wrap .i64 (x.2.2.2.2.2.2.2.1+(1:Int))),x.2.2.2.2.2.2.2.2))
 else
 none
 else
 some (.inr (.inr (x.2.2.1,x.2.2.2.1,x.2.2.2.2.1,x.2.2.2.2.2.2.2.2)))
def Zdg:Ctx:=mC [(97,[],Ztn),(98,[],Ztk)] [] 51 0
theorem Z9w:CSound Tryz.prog ⟨51,0,true⟩ (.loop (loopOf 11 Tryz.f43)) (pieceSpec Zhz Zh0 (loop Z9v)) :=
 tL Zdg 11 Tryz.f43 ⟨Z45,Z3z,trivial⟩
abbrev Zi0:Shape:=⟨sl_11,bl_0,ts_8,0⟩
abbrev Zh1:List (ETag × Shape):=[(.ret,⟨sl_10,[],ts_0,0⟩),(.exit 0,⟨[],[],[],0⟩)]
def Z9x (x:T54):Option (T54 ⊕ (T4 ⊕ Unit)) :=
 bif (decide (x.2.2.1 < x.2.1)) then
 bif (inb x.2.2.1 (List.length x.1)) then
 bif (decide ((((List.length (getAt ([]:List T7) x.1 (toN x.2.2.1))):Nat):Int) > (24:Int))) then
 some (.inr (.inl (x.2.2.1,(Int.negSucc 0),(2:Int))))
 else
 (loop Z9v (x.2.2.1,(getAt ([]:List T7) x.1 (toN x.2.2.1)),x.1,x.2.1,x.2.2.1,(getAt ([]:List T7) x.1 (toN x.2.2.1)),(((List.length (getAt ([]:List T7) x.1 (toN x.2.2.1))):Nat):Int),(0:Int),x.2.2.2)).bind fun r7 =>
 match r7 with
 | .inl y8 =>
 some (.inr (.inl (y8.1,y8.2.1,y8.2.2)))
 | .inr y8 =>
 some (.inl (y8.1,y8.2.1,(IntKind.wrap .i64 (y8.2.2.1+(1:Int))),y8.2.2.2))
 else
 none
 else
 some (.inr (.inr ()))
def Zdh:Ctx:=mC [(97,[],Ztn),(98,[],Ztk)] [(0,11,pieceSpec Zhz Zh0 (loop Z9v))] 51 0
theorem Z9y:CSound Tryz.prog ⟨51,0,true⟩ (.loop (loopOf 6 Tryz.f43)) (pieceSpec Zi0 Zh1 (loop Z9x)) :=
 tL Zdh 6 Tryz.f43 ⟨Z45,Z3z,trivial⟩ ⟨(pL 11 Tryz.f43 Z9w),trivial⟩
abbrev Zkj:Shape:=⟨sl_6,[],[y39],0⟩
abbrev Zp1:Shape:=⟨sl_0,[],ts_0,0⟩
def Z3w (x:(T47)):Option T4 :=
 (Z44 x).bind fun r5 =>
 bif (r5.2 != (0:Int)) then
 some ((Int.negSucc 0),r5.1,r5.2)
 else
 (loop Z9x (x.2.2.2.2.2,(((List.length x.2.2.2.2.2):Nat):Int),(0:Int),x)).bind fun r6 =>
 match r6 with
 | .inl y7 =>
 some (y7.1,y7.2.1,y7.2.2)
 | .inr y7 =>
 some ((Int.negSucc 0),(Int.negSucc 0),(0:Int))
abbrev Ztj:=Spec.shp Zkj Zp1 Z3w
def Zdf:Ctx:=mC [(97,[],Ztn),(98,[],Ztk)] [(0,11,pieceSpec Zhz Zh0 (loop Z9v)),(0,6,pieceSpec Zi0 Zh1 (loop Z9x))] 51 0
theorem Z3x:Sound Tryz.prog 43 (Ztj) :=
 tS Zdf Tryz.f43 ⟨Z45,Z3z,trivial⟩ ⟨(pL 11 Tryz.f43 Z9w),(pL 6 Tryz.f43 Z9y),trivial⟩
abbrev Zki:Shape:=⟨sl_6,[],[y39],0⟩
abbrev Zp0:Shape:=⟨sl_1,[],ts_1,0⟩
def Z3u (x:(T47)):Option (Bool) :=
 (Z3w x).bind fun r4 =>
 some (r4.2.2 == (0:Int))
abbrev Zti:=Spec.shp Zki Zp0 Z3u
def Zde:Ctx:=mC [(43,[],Ztj)] [] 14 0
theorem Z3v:Sound Tryz.prog 15 (Zti) :=
 tS Zde Tryz.f15 ⟨Z3x,trivial⟩
def Z9u (x:T26):Option (T26 ⊕ ((Bool) ⊕ Unit)) :=
 bif (decide (x.2.2.2 < x.2.2.1)) then
 bif (inb x.2.2.2 (List.length x.1)) then
 bif (inb x.2.2.2 (List.length x.2.1)) then
 bif (Bool.not (((getAt ((0:Int),(0:Int),(0:Int)) x.1 (toN x.2.2.2)).1 == (getAt ((0:Int),(0:Int),(0:Int)) x.2.1 (toN x.2.2.2)).1) && (((getAt ((0:Int),(0:Int),(0:Int)) x.1 (toN x.2.2.2)).2.1 == (getAt ((0:Int),(0:Int),(0:Int)) x.2.1 (toN x.2.2.2)).2.1) && ((getAt ((0:Int),(0:Int),(0:Int)) x.1 (toN x.2.2.2)).2.2 == (getAt ((0:Int),(0:Int),(0:Int)) x.2.1 (toN x.2.2.2)).2.2)))) then
 some (.inr (.inl false))
 else
 some (.inl (x.1,x.2.1,x.2.2.1,(IntKind.wrap .i64 (x.2.2.2+(1:Int)))))
 else
 none
 else
 none
 else
 some (.inr (.inr ()))
def Z3t (x:T24):Option (Bool) :=
 bif ((((List.length x.1):Nat):Int) != (((List.length x.2):Nat):Int)) then
 some false
 else
 (loop Z9u (x.1,x.2,(((List.length x.1):Nat):Int),(0:Int))).bind fun r11 =>
 match r11 with
 | .inl y12 =>
 some y12
 | .inr y12 =>
 some true
end
end Go.Proofs.YthdlpkdojipfhaaGreat.VX.VxM_M
set_option maxRecDepth 100000
namespace Go.Proofs.YthdlpkdojipfhaaGreat.VX.VxM_M
open Go.Proofs Go.Proofs.YthdlpkdojipfhaaGreat.VX.T2
noncomputable section
abbrev Zlf:Shape:=⟨[(0,(.hole y39)),(1,(.hole (.int .i64)))],[],[y39,(.int .i64)],0⟩
abbrev Zpx:Shape:=⟨sl_2,[],ts_2,0⟩
def Z5o (x:(T47 × Int)):Option (Int) :=
 (Z46 x.1).bind fun r4 =>
 bif (Bool.not r4) then
 some (1:Int)
 else
 bif (decide (x.2 < (1:Int))) then
 some (2:Int)
 else
 bif (decide (x.2 > (400:Int))) then
 some (2:Int)
 else
 some (0:Int)
abbrev Zue:=Spec.shp Zlf Zpx Z5o
def Zek:Ctx:=mC [(38,[],Zto)] [] 16 0
theorem Z5p:Sound Tryz.prog 80 (Zue) :=
 tS Zek Tryz.f80 ⟨Z47,trivial⟩
abbrev Zlj:Shape:=⟨[(0,(.hole y27))],[],[y27],0⟩
abbrev Zq1:Shape:=⟨[(0,(.sl 0))],[.row y24],[y27],0⟩
def Z5w (x:(List (T20))):Option (List (T20)) :=
 bif (@Nat.beq (List.length x) (0:Nat)) then
 amb (
 some ([]:List T20)) (
 bif (fits ((List.length ([]:List T20))+(List.length x))) then
 some (([]:List T20)++x)
 else
 none)
 else
 bif (fits ((List.length ([]:List T20))+(List.length x))) then
 some (([]:List T20)++x)
 else
 none
abbrev Zui:=Spec.shp Zlj Zq1 Z5w
def Zep:Ctx:=mC [] [] 8 0
theorem Z5x:Sound Tryz.prog 139 (Zui) :=
 tS Zep Tryz.f139 trivial
abbrev Zlg:Shape:=⟨sl_25,[.var (.hole (.one y0))],[(.int .i64),(.one y0)],0⟩
abbrev Zpy:Shape:=⟨sl_2,[.var (.hole (.one y0))],[(.int .i64),(.one y0)],1⟩
def Z5q (x:T3):Option T3 :=
 bif ((((List.length x.2):Nat):Int) == (0:Int)) then
 some ((0:Int),x.2)
 else
 bif (inb (0:Int) (List.length x.2)) then
 bif (x.1 != (0:Int)) then
 bif (sub3 (1:Int) (((List.length x.2):Nat):Int) (List.length x.2)) then
 bif (decide ((Int.tmod (getAt (0:Int) x.2 (toN (0:Int))) x.1) < (0:Int))) then
 some ((IntKind.wrap .i64 ((Int.tmod (getAt (0:Int) x.2 (toN (0:Int))) x.1)+x.1)),(cut x.2 (toN (1:Int)) ((toN (((List.length x.2):Nat):Int)) - (toN (1:Int)))))
 else
 some ((Int.tmod (getAt (0:Int) x.2 (toN (0:Int))) x.1),(cut x.2 (toN (1:Int)) ((toN (((List.length x.2):Nat):Int)) - (toN (1:Int)))))
 else
 none
 else
 none
 else
 none
abbrev Zuf:=Spec.shp Zlg Zpy Z5q
def Zel:Ctx:=mC [] [] 34 1
theorem Z5r:Sound Tryz.prog 81 (Zuf) :=
 tS Zel Tryz.f81 trivial
abbrev Zi8:Shape:=⟨[(1,(.fn 81 (.cons (.ptr 0 []) .nil) .nil)),(6,(.ptr 1 [])),(8,(.ptr 2 [])),(11,(.ptr 3 [])),(12,(.sl 4)),(27,(.hole (.int .i64))),(28,(.hole (.int .i64)))],bl_31,[(.int .i64),(.int .i64),(.one y0),(.int .i64),y45,(.int .i64),y0,y27,(.slice y4)],1⟩
abbrev Zh9:List (ETag × Shape):=[(.exit 0,⟨[(6,(.ptr 1 [])),(8,(.ptr 2 [])),(11,(.ptr 3 [])),(12,(.sl 4))],bl_31,[(.one y0),(.int .i64),y45,(.int .i64),y0,y27,(.slice y4)],1⟩)]
def Zad (x:(Int × Int × List Int × Int × (T47 × T61) × Int × List Int × List (T20) × List (Int × Int))):Option ((Int × Int × List Int × Int × (T47 × T61) × Int × List Int × List (T20) × List (Int × Int)) ⊕ (List Int × Int × (T47 × T61) × Int × List Int × List (T20) × List (Int × Int))) :=
 bif (decide (x.2.1 < x.1)) then
 bif (x.2.2.2.2.1.2.2.2.2.2.2 != (0:Int)) then
 some (.inr (x.2.2.1,x.2.2.2.1,x.2.2.2.2.1,x.2.2.2.2.2.1,x.2.2.2.2.2.2.1,x.2.2.2.2.2.2.2.1,x.2.2.2.2.2.2.2.2))
 else
 (Z16 x.2.2.2.2.1).bind fun r8 =>
 (Z5q ((((List.length r8):Nat):Int),x.2.2.1)).bind fun r9 =>
 bif (inb r9.1 (List.length r8)) then
 (Z1a (x.2.2.2.2.1,(getAt ((0:Int),(0:Int)) r8 (toN r9.1)))).bind fun r10 =>
 bif (fits ((List.length x.2.2.2.2.2.2.2.1)+(List.length r10.2.1))) then
 bif (fits ((List.length x.2.2.2.2.2.2.2.2)+(List.length ((getAt ((0:Int),(0:Int)) r8 (toN r9.1)) :: ([]:List (Int × Int)))))) then
 bif (fits ((List.length x.2.2.2.2.2.2.1)+(List.length ((((List.length r8):Nat):Int) :: ([]:List Int))))) then
 some (.inl (x.1,(IntKind.wrap .i64 (x.2.1+(1:Int))),r9.2,x.2.2.2.1,r10.1,x.2.2.2.2.2.1,(x.2.2.2.2.2.2.1++((((List.length r8):Nat):Int) :: ([]:List Int))),(x.2.2.2.2.2.2.2.1++r10.2.1),(x.2.2.2.2.2.2.2.2++((getAt ((0:Int),(0:Int)) r8 (toN r9.1)) :: ([]:List (Int × Int))))))
 else
 none
 else
 none
 else
 none
 else
 none
 else
 some (.inr (x.2.2.1,x.2.2.2.1,x.2.2.2.2.1,x.2.2.2.2.2.1,x.2.2.2.2.2.2.1,x.2.2.2.2.2.2.2.1,x.2.2.2.2.2.2.2.2))
def Zen:Ctx:=mC [(14,[],Zs8),(139,[],Zui),(22,[],Zs7),(81,[],Zuf),(23,[],Zs9)] [] 76 1
theorem Zae:CSound Tryz.prog ⟨76,1,true⟩ (.loop (loopOf 6 Tryz.f82)) (pieceSpec Zi8 Zh9 (loop Zad)) :=
 tL Zen 6 Tryz.f82 ⟨Z19,Z5x,Z17,Z5r,Z1b,trivial⟩
abbrev Zlh:Shape:=⟨[(0,(.hole y39)),(1,(.fn 81 (.cons (.ptr 0 []) .nil) .nil)),(2,(.hole (.int .i64)))],[.var (.hole (.one y0))],[y39,(.int .i64),(.one y0)],0⟩
abbrev Zpz:Shape:=⟨[(0,(.hole y38)),(1,(.hole y0))],[.var (.hole (.one y0))],[y38,y0,(.one y0)],1⟩
def Z5s (x:(T47 × Int × List Int)):Option ((Int × T36) × List Int × List Int) :=
 (Z18 x.1).bind fun r5 =>
 (Z5w r5.2.1).bind fun r6 =>
 (loop Zad (x.2.1,(0:Int),x.2.2,(0:Int),r5.1,(0:Int),([]:List Int),r6,([]:List (Int × Int)))).bind fun r7 =>
 bif (r7.2.2.1.2.2.2.2.2.2 == (0:Int)) then
 some (((5:Int),r7.2.2.2.2.2.1,r7.2.2.2.2.2.2),r7.2.2.2.2.1,r7.1)
 else
 some ((r7.2.2.1.2.2.2.2.2.2,r7.2.2.2.2.2.1,r7.2.2.2.2.2.2),r7.2.2.2.2.1,r7.1)
abbrev Zug:=Spec.shp Zlh Zpz Z5s
def Zem:Ctx:=mC [(14,[],Zs8),(139,[],Zui),(22,[],Zs7),(81,[],Zuf),(23,[],Zs9)] [(0,6,pieceSpec Zi8 Zh9 (loop Zad))] 76 1
theorem Z5t:Sound Tryz.prog 82 (Zug) :=
 tS Zem Tryz.f82 ⟨Z19,Z5x,Z17,Z5r,Z1b,trivial⟩ ⟨(pL 6 Tryz.f82 Zae),trivial⟩
abbrev Zle:Shape:=⟨sl_43,[],[y39,y0,(.int .i64)],0⟩
abbrev Zpw:Shape:=⟨[(0,(.hole y38)),(1,(.hole (.int .i64)))],[],[y38,(.int .i64)],0⟩
def Z5m (x:T51):Option ((Int × T36) × Int) :=
 (Z5o (x.1,x.2.2)).bind fun r3 =>
 bif (r3 != (0:Int)) then
 some (((0:Int),([]:List T20),([]:List (Int × Int))),r3)
 else
 (Z5s (x.1,x.2.2,x.2.1)).bind fun r4 =>
 some (r4.1,(0:Int))
abbrev Zud:=Spec.shp Zle Zpw Z5m
def Zej:Ctx:=mC [(80,[],Zue),(82,[81],Zug)] [] 31 0
theorem Z5n:Sound Tryz.prog 28 (Zud) :=
 tS Zej Tryz.f28 ⟨Z5p,Z5t,trivial⟩
abbrev Zmc:Shape:=⟨sl_0,[],ts_0,0⟩
abbrev Zqu:Shape:=⟨sl_1,[],ts_1,0⟩
def Z7i (x:T4):Option (Bool) :=
 bif (decide (x.1 ≥ x.2.1)) then
 some (decide (x.1 ≤ x.2.2))
 else
 some false
abbrev Zvb:=Spec.shp Zmc Zqu Z7i
def Zfv:Ctx:=mC [] [] 15 0
theorem Z7j:Sound Tryz.prog 88 (Zvb) :=
 tS Zfv Tryz.f88 trivial
abbrev Zmb:Shape:=⟨sl_2,[],ts_2,0⟩
abbrev Zqt:Shape:=⟨sl_1,[],ts_1,0⟩
def Z7f (x:(Int)):Option (Bool) :=
 (Z7i (x,(Int.negSucc 0),(3:Int))).bind fun r8 =>
 some (Bool.not r8)
abbrev Zva:=Spec.shp Zmb Zqt Z7f
def Zft:Ctx:=mC [(88,[],Zvb)] [] 6 0
theorem Z7g:Sound Tryz.prog 87 (Zva) :=
 tS Zft Tryz.f87 ⟨Z7j,trivial⟩
end
end Go.Proofs.YthdlpkdojipfhaaGreat.VX.VxM_M

