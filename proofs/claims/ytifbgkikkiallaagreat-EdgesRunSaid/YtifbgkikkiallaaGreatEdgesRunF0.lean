import Derived.Test.YtifbgkikkiallaaGreatEdgesRunE15
import Derived.Test.YtifbgkikkiallaaGreatEdgesRunE18
import Derived.Test.YtifbgkikkiallaaGreatEdgesRunE19
set_option linter.unusedVariables false
set_option linter.unusedSimpArgs false
set_option maxRecDepth 100000
namespace Go.Proofs.YtifbgkikkiallaaGreat.VX.VxZ_Z
open Go.Proofs Go.Proofs.YtifbgkikkiallaaGreat.VX.T2
noncomputable section
theorem mixed:Tryz.prog.follows .mixedOrders=true:=by kernel_rfl
abbrev mC (fx:List (FuncId × List FuncId × Spec)) (sum:List (Nat × Nat × CSpec)) (nt pin:Nat) (nr:Bool:=true) (ys:List (Nat × List Nat × Spec):=[]) (rw:List (Nat × List Nat):=[]):Ctx:={ tb:=mkTb T2.tbl,fx:=fx,sum:=sum,nt:=nt,pin:=pin,nr:=nr,ys:=ys,rw:=rw }
theorem tS (C:Ctx) (fn:Func) {f:FuncId} {sh ro:Shape} {F:HL sh.ts->Option (HL ro.ts)} (hx:FxAll Tryz.prog C.fx) (hs:SumAll Tryz.prog C.ek (bodyOf fn) C.sum:=by trivial) (hy:YsAll Tryz.prog C.ys:=by trivial) (h1:Tryz.prog.funcs[f]?=some fn:=by kernel_rfl) (h2:fn.body=some (bodyOf fn):=by kernel_rfl) (h3:fn.name ≠ "runtime.NumGoroutine":=by decide) (h4:C.tb=mkTb T2.tbl:=by rfl) (h5:∀ (R:Type) f cl args m N k kp,C.miss (R:=R) f cl args m N k kp=none:=by intros; rfl) (h6:fn.ntmps=C.nt:=by kernel_rfl) (h7:ro.pin=C.pin:=by rfl) (h8:C.pin <= sh.bl.length:=by decide) (h9:C.pin <= ro.bl.length:=by decide) (h10:sh.pin=0:=by rfl) (h11:sh.sl.length <= C.nt:=by decide) (h12:seqK 0 ro.sl=true:=by rfl) (h13:∀ x,exec C (bodyOf fn) (sh.fr x) (sh.mem x) sh.bl.length (retS C fn.results.toList ro)=F x:=by intro x; kernel_rfl):Sound Tryz.prog f (Spec.shp sh ro F) :=
 Sound.shp h1 h2 h3 (ctxOK mixed tbl_ok h4 hx hy h5) (SumOK.of hs) h6 sh ro h7 h8 h9 h10 h11 h12 F h13
theorem tL (C:Ctx) (n:Nat) (fn:Func) {sh:Shape} {es:List (ETag × Shape)} {F:HL sh.ts->Option (HL sh.ts ⊕ YT es)} (hx:FxAll Tryz.prog C.fx) (hs:SumAll Tryz.prog C.ek (loopOf n fn) C.sum:=by trivial) (hy:YsAll Tryz.prog C.ys:=by trivial) (h4:C.tb=mkTb T2.tbl:=by rfl) (h5:∀ (R:Type) f cl args m N k kp,C.miss (R:=R) f cl args m N k kp=none:=by intros; rfl) (h6:sh.pin=C.pin:=by rfl) (h7:pinsOK C.pin es=true:=by rfl) (h8:∀ x,exec C (loopOf n fn) (sh.fr x) (sh.mem x) sh.bl.length (loopK sh es)=F x:=by intro x; kernel_rfl):CSound Tryz.prog C.ek (.loop (loopOf n fn)) (pieceSpec sh es (loop F)) :=
 loop_sound (ctxOK mixed tbl_ok h4 hx hy h5) (SumOK.of hs) sh es h6 h7 F h8
theorem tP (C:Ctx) (fn:Func) {f:FuncId} {ts rs:List Ty} {F:HL ts->Option (HL rs)} (hx:FxAll Tryz.prog C.fx) (hs:SumAll Tryz.prog C.ek (bodyOf fn) C.sum:=by trivial) (hy:YsAll Tryz.prog C.ys:=by trivial) (h1:Tryz.prog.funcs[f]?=some fn:=by kernel_rfl) (h2:fn.body=some (bodyOf fn):=by kernel_rfl) (h3:fn.name ≠ "runtime.NumGoroutine":=by decide) (h4:C.tb=mkTb T2.tbl:=by rfl) (h5:∀ (R:Type) f cl args m N k kp,C.miss (R:=R) f cl args m N k kp=none:=by intros; rfl) (h6:fn.ntmps=C.nt:=by kernel_rfl) (h7:C.pin=0:=by rfl) (h8:ts.length <= C.nt:=by decide) (h9:∀ x,exec C (bodyOf fn) (initFr 0 (ofHL ts x)) [] 0 (retK C fn.results.toList rs)=F x:=by intro x; kernel_rfl):Sound Tryz.prog f (Spec.pure ts rs F) :=
 Sound.pure h1 h2 h3 (ctxOK mixed tbl_ok h4 hx hy h5) (SumOK.of hs) h6 h7 ts rs h8 F h9
theorem pL (n:Nat) (fn:Func) {c:Code} {k:EK} {s:CSpec} (h:CSound Tryz.prog k (.loop (loopOf n fn)) s) (e:pieces 0 n c=[.loop (loopOf n fn)]:=by kernel_rfl):∀ d ∈ pieces 0 n c,CSound Tryz.prog k d s:=pieces_one e h
theorem pR (n:Nat) (fn:Func) {c:Code} {k:EK} {s:CSpec} (h:CSound Tryz.prog k (rfOf n fn) s) (e:pieces 3 n c=[rfOf n fn]:=by kernel_rfl):∀ d ∈ pieces 3 n c,CSound Tryz.prog k d s:=pieces_one e h
theorem pN {t n:Nat} {c:Code} {k:EK} {s:CSpec} (e:pieces t n c=[]:=by kernel_rfl):∀ d ∈ pieces t n c,CSound Tryz.prog k d s:=pieces_none e
abbrev T0:=Int × Bool
abbrev T1:=Bool × Int
abbrev T2:=Int × List Int
abbrev T3:=List Int × Int
abbrev T4:=Int × Int × Int
abbrev T5:=List (Int × Int)
abbrev T6:=(List Int) × Int
abbrev T7:=Int × (Int × Int)
abbrev T8:=(Int × Int) × Int
abbrev T10:=List Int × Int × Int
abbrev T16:=List T1 × Bool
abbrev T17:=Int × List (T7)
abbrev T18:=Int × (List T7)
abbrev T19:=List (T7) × Int
abbrev T20:=Int × (Int × T7)
abbrev T21:=(Int × T0) × Int
abbrev T22:=Int × (Int × T3)
abbrev T23:=Int × (Int × T0)
abbrev T24:=Bool × List (T7)
abbrev T25:=Int × (Int × T6)
abbrev T26:=Bool × (List T7)
abbrev T27:=List (T7) × List (T7)
abbrev T28:=(List T7) × (List T7)
abbrev T29:=Int × List Int × List Int × Int × List (T8) × List (Int × Int) × List (Int × Int)
abbrev T30:=Bool × List Int × List Int × Int × List (T8) × List (Int × Int) × List (Int × Int)
abbrev T31:=(Int × T17)
abbrev T33:=(Int × T17) × T7
abbrev T34:=Int × (Int × T27)
abbrev T35:=Int × (Int × T28)
abbrev T36:=List Int × List (T20)
abbrev T37:=(Int × T17) × Int × Int
abbrev T38:=List Int × List (T20) × Int
abbrev T39:=List (T16) × List (List (T7))
abbrev T40:=List (T20) × List (Int × Int)
abbrev T45:=T20 × List Int × List Int × Int × List (T8) × List (Int × Int) × List (Int × Int)
abbrev T46:=List (T20) × T20 × List Int × List Int × Int × List (T8) × List (Int × Int) × List (Int × Int)
abbrev T47:=Int × (Int × T39)
abbrev T48:=Bool × (T22 × T34)
abbrev T49:=Bool × (T25 × T35)
abbrev T50:=List T31 × (Int × Int)
abbrev T51:=(Int × T48)
abbrev T52:=List (T24) × T50
abbrev T53:=(Int × T48) × Int
abbrev T54:=List Int × (Int × T47)
abbrev T55:=List T51 × T52
abbrev T56:=T54 × List (T7)
abbrev T57:=T54 × (Int × Int) × List (T23) × List T51 × List (T24) × List T31 × List (T20)
abbrev T58:=Int × T54 × (Int × Int) × List (T23) × List T51 × List (T24) × List T31 × List (T20)
abbrev T59:=(Int × Int) × T7 × T54 × (Int × Int) × List (T23) × List T51 × List (T24) × List T31 × List (T20)
abbrev T60:=List (T23) × T55
abbrev y1:Ty:=.slice (.int .i64)
abbrev y2:Ty:=.arr 8 (.int .i64)
abbrev y3:Ty:=.arr 16 (.int .i64)
abbrev y4:Ty:=.pair (.int .i64) .bool
abbrev y5:Ty:=.pair .bool (.int .i64)
abbrev y6:Ty:=.pair (.int .i64) (.int .i64)
abbrev y7:Ty:=.pair (.int .i64) y6
abbrev y8:Ty:=.pair y6 (.int .i64)
abbrev y9:Ty:=.pair (.int .i64) y4
abbrev y10:Ty:=.pair (.int .i64) y1
abbrev y11:Ty:=.pair (.slice y1) y1
abbrev y12:Ty:=.pair y6 (.arr 8 y6)
abbrev y13:Ty:=.pair y1 (.int .i64)
abbrev y14:Ty:=.pair (.slice y5) .bool
abbrev y15:Ty:=.slice y10
abbrev y16:Ty:=.arr 4 y12
abbrev y17:Ty:=.slice y14
abbrev y18:Ty:=.slice (.slice y7)
abbrev y19:Ty:=.pair (.int .i64) y7
abbrev y20:Ty:=.pair y9 (.int .i64)
abbrev y21:Ty:=.pair (.int .i64) y9
abbrev y22:Ty:=.pair y7 (.int .i64)
abbrev y23:Ty:=.pair (.int .i64) y13
abbrev y24:Ty:=.pair .bool (.slice y7)
abbrev y25:Ty:=.pair (.slice y7) (.slice y7)
abbrev y26:Ty:=.pair (.int .i64) (.slice y7)
abbrev y27:Ty:=.slice y20
abbrev y28:Ty:=.slice y21
abbrev y29:Ty:=.slice y24
abbrev y30:Ty:=.pair y17 y18
abbrev y31:Ty:=.pair (.int .i64) y19
abbrev y32:Ty:=.pair (.int .i64) y23
abbrev y33:Ty:=.pair (.int .i64) y25
abbrev y34:Ty:=.pair (.int .i64) y26
abbrev y35:Ty:=.pair (.int .i64) y22
abbrev y36:Ty:=.slice y31
abbrev y37:Ty:=.slice y34
abbrev y38:Ty:=.pair (.int .i64) y30
abbrev y39:Ty:=.pair (.int .i64) y33
abbrev y40:Ty:=.pair (.int .i64) y35
abbrev y41:Ty:=.pair y37 y6
abbrev y42:Ty:=.pair y32 y39
abbrev y43:Ty:=.pair (.int .i64) y38
abbrev y44:Ty:=.pair y36 (.slice y6)
abbrev y45:Ty:=.pair y29 y41
abbrev y46:Ty:=.pair .bool y42
abbrev y47:Ty:=.pair (.int .i64) y43
abbrev y48:Ty:=.pair (.int .i64) y44
abbrev y49:Ty:=.pair y1 y47
abbrev y50:Ty:=.pair (.int .i64) y46
abbrev y51:Ty:=.slice y50
abbrev y52:Ty:=.pair y50 (.int .i64)
abbrev y53:Ty:=.pair y51 y45
abbrev y54:Ty:=.pair y28 y53
abbrev y55:Ty:=.pair y49 y54
abbrev bl_0:List BPat:=[.var (.pr (.hole y1) (.pr (.mp 1) (.pr (.hole y2) (.pr (.hole (.int .i64)) (.pr (.mp 2) (.pr (.mp 3) (.mp 4))))))),.mp y6 (.int .i64),.mp (.int .i64) (.int .i64),.mp (.int .i64) (.int .i64),.fm [1,3,5,6,7,11,12,14,15] (.cons (.fn 156 .nil (.cons (.ptr 5 []) .nil)) (.cons (.fn 157 .nil (.cons (.ptr 5 []) .nil)) (.cons (.fn 159 .nil (.cons (.ptr 5 []) .nil)) (.cons (.fn 160 .nil (.cons (.ptr 5 []) .nil)) (.cons (.fn 161 .nil (.cons (.ptr 5 []) .nil)) (.cons (.fn 162 .nil (.cons (.ptr 6 []) .nil)) (.cons (.fn 163 .nil (.cons (.ptr 6 []) .nil)) (.cons (.fn 164 .nil (.cons (.ptr 5 []) .nil)) (.cons (.fn 165 .nil (.cons (.ptr 5 []) .nil)) .nil))))))))),.var (.ptr 0 []),.var (.fn 154 .nil (.cons (.ptr 5 []) .nil))]
abbrev bl_1:List BPat:=[.var (.ptr 1 []),.var (.pr (.hole y1) (.pr (.mp 2) (.pr (.hole y2) (.pr (.hole (.int .i64)) (.pr (.mp 3) (.pr (.mp 4) (.mp 5))))))),.mp y6 (.int .i64),.mp (.int .i64) (.int .i64),.mp (.int .i64) (.int .i64),.fm [1,3,5,6,7,11,12,14,15] (.cons (.fn 156 .nil (.cons (.ptr 0 []) .nil)) (.cons (.fn 157 .nil (.cons (.ptr 0 []) .nil)) (.cons (.fn 159 .nil (.cons (.ptr 0 []) .nil)) (.cons (.fn 160 .nil (.cons (.ptr 0 []) .nil)) (.cons (.fn 161 .nil (.cons (.ptr 0 []) .nil)) (.cons (.fn 162 .nil (.cons (.ptr 6 []) .nil)) (.cons (.fn 163 .nil (.cons (.ptr 6 []) .nil)) (.cons (.fn 164 .nil (.cons (.ptr 0 []) .nil)) (.cons (.fn 165 .nil (.cons (.ptr 0 []) .nil)) .nil))))))))),.var (.fn 154 .nil (.cons (.ptr 0 []) .nil))]
abbrev bl_2:List BPat:=[.var (.fn 154 .nil (.cons (.ptr 1 []) .nil)),.var (.ptr 2 []),.var (.pr (.hole y1) (.pr (.mp 3) (.pr (.hole y2) (.pr (.hole (.int .i64)) (.pr (.mp 4) (.pr (.mp 5) (.mp 6))))))),.mp y6 (.int .i64),.mp (.int .i64) (.int .i64),.mp (.int .i64) (.int .i64),.fm [1,3,5,6,7,11,12,14,15] (.cons (.fn 156 .nil (.cons (.ptr 1 []) .nil)) (.cons (.fn 157 .nil (.cons (.ptr 1 []) .nil)) (.cons (.fn 159 .nil (.cons (.ptr 1 []) .nil)) (.cons (.fn 160 .nil (.cons (.ptr 1 []) .nil)) (.cons (.fn 161 .nil (.cons (.ptr 1 []) .nil)) (.cons (.fn 162 .nil (.cons (.ptr 0 []) .nil)) (.cons (.fn 163 .nil (.cons (.ptr 0 []) .nil)) (.cons (.fn 164 .nil (.cons (.ptr 1 []) .nil)) (.cons (.fn 165 .nil (.cons (.ptr 1 []) .nil)) .nil)))))))))]
abbrev bl_3:List BPat:=[.var (.pr (.hole y1) (.pr (.mp 1) (.pr (.mp 2) (.pr (.mp 3) (.pr (.mp 4) (.mp 5)))))),.mp y9 (.int .i64),.mp (.int .i64) (.int .i64),.mp (.int .i64) (.int .i64),.mo (.int .i64) (.int .i64),.mp (.int .i64) (.int .i64)]
abbrev bl_4:List BPat:=[.var (.sl 1),.row (.int .i64)]
abbrev bl_5:List BPat:=[.lpt 983052 [12] (.cons (.ptr 4 []) .nil),.var (.ptr 5 []),.var (.hole y31),.var (.hole (.int .i64)),.var (.sl 11),.var (.pr (.hole y1) (.pr (.mp 6) (.pr (.mp 7) (.pr (.mp 8) (.pr (.mp 9) (.mp 10)))))),.mp y9 (.int .i64),.mp (.int .i64) (.int .i64),.mp (.int .i64) (.int .i64),.mo (.int .i64) (.int .i64),.mp (.int .i64) (.int .i64),.row (.int .i64)]
abbrev bl_6:List BPat:=[.lp 983052 [12] (.cons (.ptr 4 []) .nil),.var (.ptr 5 []),.var (.hole y31),.var (.hole (.int .i64)),.var (.sl 11),.var (.pr (.hole y1) (.pr (.mp 6) (.pr (.mp 7) (.pr (.mp 8) (.pr (.mp 9) (.mp 10)))))),.mp y9 (.int .i64),.mp (.int .i64) (.int .i64),.mp (.int .i64) (.int .i64),.mo (.int .i64) (.int .i64),.mp (.int .i64) (.int .i64),.row (.int .i64)]
abbrev bl_9:List BPat:=[.row (.int .i64)]
abbrev bl_13:List BPat:=[.var (.hole y49)]
abbrev bl_14:List BPat:=[.var (.pr (.pr .nl (.pr (.hole (.int .i64)) (.pr (.hole (.int .i64)) (.pr (.hole (.int .i64)) (.pr .nl .nl))))) (.pr .nl (.pr .nl (.pr .nl (.pr .nl (.hole y6)))))),.var (.pr (.hole y49) (.pr (.sl 2) (.pr (.sl 3) (.pr (.sl 4) (.pr (.sl 5) (.hole y6)))))),.row y21,.row y50,.row y24,.row y34]
abbrev bl_15:List BPat:=[.var (.pr (.pr (.hole y49) (.pr (.sl 1) (.pr (.sl 2) (.pr (.sl 3) (.pr (.sl 4) (.hole y6)))))) (.sl 5)),.row y21,.row y50,.row y24,.row y34,.row y31]
abbrev bl_16:List BPat:=[.var (.hole (.int .i64))]
abbrev bl_17:List BPat:=[.row y21,.var (.hole (.int .i64))]
abbrev bl_18:List BPat:=[.var (.ptr 1 []),.var (.pr (.pr (.hole y49) (.pr (.sl 2) (.pr (.sl 3) (.pr (.sl 4) (.pr (.sl 5) (.hole y6)))))) (.sl 6)),.row y21,.row y50,.row y24,.row y34,.row y31]
abbrev bl_19:List BPat:=[.lp 16449542 [4] (.cons (.ptr 2 []) .nil),.var (.hole (.one y32)),.var (.sl 3),.row (.int .i64)]
abbrev bl_20:List BPat:=[.lpt 16449542 [4] (.cons (.ptr 2 []) .nil),.var (.hole (.one y32)),.var (.sl 3),.row (.int .i64)]
abbrev bl_21:List BPat:=[.var (.hole y55),.var (.hole (.int .i64)),.var (.hole .bool)]
abbrev bl_22:List BPat:=[.var (.hole y55),.var (.hole (.int .i64)),.var (.hole (.int .i64))]
abbrev bl_23:List BPat:=[.row y7,.var (.hole (.int .i64))]
abbrev bl_24:List BPat:=[.var (.hole y52)]
abbrev bl_25:List BPat:=[.var (.pr (.pr (.hole y49) (.pr (.sl 2) (.pr (.sl 3) (.pr (.sl 4) (.pr (.sl 5) (.hole y6)))))) (.sl 6)),.var (.hole y6),.row y21,.row y50,.row y24,.row y34,.row y31]
abbrev bl_26:List BPat:=[.var (.hole (.one y1)),.var (.pr (.hole (.int .i64)) (.pr .nl .nl)),.var (.hole y55),.var (.pr (.hole (.int .i64)) (.pr (.sl 5) (.sl 6))),.row (.int .i64),.row y31,.row y6]
abbrev bl_27:List BPat:=[.var (.hole y49),.var (.hole y48),.var (.hole (.slice y1)),.var (.hole (.int .i64)),.var (.hole y31)]
abbrev bl_28:List BPat:=[.var (.hole (.slice y1)),.var (.hole (.int .i64)),.var (.hole y48),.var (.hole y31)]
abbrev ts_0:List Ty:=[(.int .i64),(.int .i64),(.int .i64)]
abbrev ts_1:List Ty:=[.bool]
abbrev ts_2:List Ty:=[(.int .i64)]
abbrev ts_3:List Ty:=[y1,(.int .i64),(.int .i64)]
abbrev ts_4:List Ty:=[y36,y31,y1,y2,(.int .i64),(.slice y8),(.slice y6),(.slice y6)]
abbrev ts_5:List Ty:=[.bool,y1,y2,(.int .i64),(.slice y8),(.slice y6),(.slice y6)]
abbrev ts_6:List Ty:=[(.int .i64),y1,y2,(.int .i64),(.slice y8),(.slice y6),(.slice y6)]
abbrev ts_7:List Ty:=[y31,y1,y2,(.int .i64),(.slice y8),(.slice y6),(.slice y6)]
abbrev ts_8:List Ty:=[(.int .i64),(.int .i64)]
abbrev ts_9:List Ty:=[y1,y27,(.slice y6),(.slice y6),y15,(.slice y6)]
abbrev ts_10:List Ty:=[(.int .i64),y31,y1,y27,(.slice y6),(.slice y6),y15,(.slice y6)]
abbrev ts_11:List Ty:=[(.int .i64),y1]
abbrev ts_12:List Ty:=[(.int .i64),y31,(.int .i64),y1,y27,(.slice y6),(.slice y6),y15,(.slice y6),y1]
abbrev ts_13:List Ty:=[y31,(.int .i64),y1,y27,(.slice y6),(.slice y6),y15,(.slice y6),y1]
abbrev ts_14:List Ty:=[y1,(.int .i64)]
abbrev ts_15:List Ty:=[.bool,(.int .i64)]
abbrev ts_17:List Ty:=[y1,y36,(.int .i64)]
abbrev ts_23:List Ty:=[y49,(.slice y7)]
abbrev ts_24:List Ty:=[(.int .i64),y49,y6,y28,y51,y29,y37,y36]
abbrev ts_25:List Ty:=[y49,y6,y28,y51,y29,y37,y36]
abbrev ts_26:List Ty:=[(.slice y7),(.int .i64)]
abbrev ts_27:List Ty:=[y6,y7,y49,y6,y28,y51,y29,y37,y36]
abbrev ts_28:List Ty:=[y34,(.int .i64),(.int .i64)]
abbrev sl_0:List (Nat × Pat):=[(0,(.hole (.int .i64))),(1,(.hole (.int .i64))),(2,(.hole (.int .i64)))]
abbrev sl_1:List (Nat × Pat):=[(0,(.hole .bool))]
abbrev sl_2:List (Nat × Pat):=[(0,(.hole (.int .i64)))]
abbrev sl_3:List (Nat × Pat):=[(4,(.hole (.int .i64)))]
abbrev sl_4:List (Nat × Pat):=[(0,(.ptr 0 []))]
abbrev sl_5:List (Nat × Pat):=[(0,(.ptr 0 [])),(1,(.hole y36)),(2,(.hole y31))]
abbrev sl_6:List (Nat × Pat):=[(0,(.ptr 0 [])),(1,(.hole (.int .i64)))]
abbrev sl_7:List (Nat × Pat):=[(0,(.hole y31)),(1,(.ptr 0 []))]
abbrev sl_8:List (Nat × Pat):=[(0,(.ptr 0 [])),(1,(.hole (.int .i64))),(2,(.hole y31))]
abbrev sl_9:List (Nat × Pat):=[(0,(.hole y1)),(1,(.hole y36))]
abbrev sl_10:List (Nat × Pat):=[(0,(.hole (.int .i64))),(1,(.hole (.int .i64)))]
abbrev sl_11:List (Nat × Pat):=[(0,(.hole y1))]
abbrev sl_14:List (Nat × Pat):=[(0,(.hole y1)),(1,(.hole (.int .i64)))]
abbrev sl_15:List (Nat × Pat):=[(0,(.hole .bool)),(1,(.hole (.int .i64)))]
abbrev sl_17:List (Nat × Pat):=[(0,(.hole y1)),(1,(.hole y36)),(2,(.hole (.int .i64)))]
abbrev sl_26:List (Nat × Pat):=[(0,(.hole (.slice y5))),(1,(.fn 248 .nil (.cons (.ptr 0 []) .nil)))]
abbrev sl_27:List (Nat × Pat):=[(0,(.hole y49)),(1,(.hole (.slice y7)))]
abbrev sl_28:List (Nat × Pat):=[(2,(.hole (.int .i64))),(3,(.hole (.int .i64))),(4,(.hole (.int .i64)))]
abbrev sl_29:List (Nat × Pat):=[(1,(.ptr 0 [])),(22,(.hole y18)),(23,(.hole (.int .i64))),(24,(.hole (.int .i64)))]
abbrev sl_30:List (Nat × Pat):=[(0,(.hole y32)),(1,(.hole (.int .i64)))]
abbrev sl_31:List (Nat × Pat):=[(0,(.hole y50)),(1,(.hole (.int .i64)))]
abbrev sl_32:List (Nat × Pat):=[(0,(.ptr 0 [])),(1,(.hole (.int .i64))),(2,(.hole (.int .i64)))]
abbrev sl_33:List (Nat × Pat):=[(6,(.hole .bool))]
abbrev sl_34:List (Nat × Pat):=[(0,(.hole y1)),(1,(.hole (.int .i64))),(2,(.hole (.int .i64)))]
abbrev sl_35:List (Nat × Pat):=[(0,(.hole y7)),(1,(.ptr 0 [])),(2,(.ptr 1 [])),(3,(.ptr 2 []))]
abbrev sl_36:List (Nat × Pat):=[(0,(.hole (.slice y7))),(1,(.fn 199 .nil (.cons (.ptr 0 []) (.cons (.ptr 1 []) (.cons (.ptr 2 []) .nil)))))]
abbrev sl_37:List (Nat × Pat):=[(0,(.hole (.slice y7))),(1,(.fn 204 .nil (.cons (.ptr 0 []) (.cons (.ptr 1 []) (.cons (.ptr 2 []) .nil)))))]
abbrev sl_38:List (Nat × Pat):=[(0,(.hole (.slice y7))),(1,(.hole (.int .i64)))]
abbrev sl_39:List (Nat × Pat):=[(0,(.ptr 0 [])),(1,(.hole y6)),(2,(.hole y7))]
abbrev sl_40:List (Nat × Pat):=[(0,(.ptr 0 [])),(1,(.hole y7)),(2,(.hole (.int .i64))),(3,(.hole .bool))]
abbrev sl_41:List (Nat × Pat):=[(0,(.hole y34)),(1,(.hole y7))]
abbrev sl_42:List (Nat × Pat):=[(0,(.hole y34)),(1,(.hole (.int .i64))),(2,(.hole (.int .i64)))]
abbrev Zn0:Shape:=⟨sl_0,[],ts_0,0⟩
abbrev Zrm:Shape:=⟨sl_1,[],ts_1,0⟩
def Z7p (x:T4):Option (Bool) :=
 bif (decide (x.1 ≥ x.2.1)) then
 some (decide (x.1 <= x.2.2))
 else
 some false
abbrev Zw6:=Spec.shp Zn0 Zrm Z7p
def Zgb:Ctx:=mC [] [] 15 0
theorem Z7q:Sound Tryz.prog 101 (Zw6) :=
 tS Zgb Tryz.f101 trivial
abbrev Zmz:Shape:=⟨sl_2,[],ts_2,0⟩
abbrev Zrl:Shape:=⟨sl_1,[],ts_1,0⟩
def Z7m (x:(Int)):Option (Bool) :=
 (Z7p (x,(Int.negSucc 0),3)).bind fun r11 =>
 some (Bool.not r11)
abbrev Zw5:=Spec.shp Zmz Zrl Z7m
def Zg9:Ctx:=mC [(101,[],Zw6)] [] 6 0
theorem Z7n:Sound Tryz.prog 100 (Zw5) :=
 tS Zg9 Tryz.f100 ⟨Z7q,trivial⟩
abbrev Zj3:Shape:=⟨[(0,(.hole y1)),(1,(.fn 100 .nil .nil)),(7,(.hole (.int .i64))),(8,(.hole (.int .i64)))],[],ts_3,0⟩
abbrev Zi2:List (ETag × Shape):=[(.ret,⟨sl_3,[],ts_2,0⟩),(.exit 0,⟨[],[],[],0⟩)]
def Zb9 (x:T10):Option (T10 ⊕ ((Int) ⊕ Unit)) :=
 bif (decide (x.2.2 < x.2.1)) then
 bif (inb x.2.2 (List.length x.1)) then
 (Z7m (getAt 0 x.1 (toN x.2.2))).bind fun r10 =>
 bif r10 then
 some (.inr (.inl x.2.2))
 else
 some (.inl (x.1,x.2.1,(IntKind.wrap .i64 (x.2.2+1))))
 else
 none
 else
 some (.inr (.inr ()))
def Zg5:Ctx:=mC [(100,[],Zw5)] [] 19 0
theorem Zba:CSound Tryz.prog ⟨19,0,true⟩ (.loop (loopOf 3 Tryz.f126)) (pieceSpec Zj3 Zi2 (loop Zb9)) :=
 tL Zg5 3 Tryz.f126 ⟨Z7n,trivial⟩
abbrev Zmw:Shape:=⟨[(0,(.hole y1)),(1,(.fn 100 .nil .nil))],[],[y1],0⟩
abbrev Zri:Shape:=⟨sl_2,[],ts_2,0⟩
def Z7h (x:(List Int)):Option (Int) :=
 (loop Zb9 (x,(((List.length x):Nat):Int),0)).bind fun r9 =>
 match r9 with
 | .inl y10 =>
 some y10
 | .inr y10 =>
 some (Int.negSucc 0)
abbrev Zw2:=Spec.shp Zmw Zri Z7h
def Zg4:Ctx:=mC [(100,[],Zw5)] [(0,3,pieceSpec Zj3 Zi2 (loop Zb9))] 19 0
theorem Z7i:Sound Tryz.prog 126 (Zw2) :=
 tS Zg4 Tryz.f126 ⟨Z7n,trivial⟩ ⟨(pL 3 Tryz.f126 Zba),trivial⟩
abbrev Zmk:Shape:=⟨[(0,(.hole y1)),(1,(.fn 100 .nil .nil))],[],[y1],0⟩
abbrev Zr6:Shape:=⟨sl_1,[],ts_1,0⟩
def Z6t (x:(List Int)):Option (Bool) :=
 (Z7h x).bind fun r8 =>
 some (decide (r8 ≥ 0))
abbrev Zvq:=Spec.shp Zmk Zr6 Z6t
def Zfi:Ctx:=mC [(126,[100],Zw2)] [] 9 0
theorem Z6u:Sound Tryz.prog 92 (Zvq) :=
 tS Zfi Tryz.f92 ⟨Z7i,trivial⟩
abbrev Znj:Shape:=⟨[],[],[],0⟩
abbrev Zs5:Shape:=⟨[(0,(.mp 0))],[.mp (.int .i64) (.int .i64)],[(.slice y6)],0⟩
def Z8t (x:Unit):Option T5 :=
 some (@mput (Int) (Int) (Ty.beq (.int .i64)) (15:Int) (13:Int) (@mput (Int) (Int) (Ty.beq (.int .i64)) (11:Int) (10:Int) (@mput (Int) (Int) (Ty.beq (.int .i64)) (9:Int) (8:Int) (@mput (Int) (Int) (Ty.beq (.int .i64)) (6:Int) (4:Int) (@mput (Int) (Int) (Ty.beq (.int .i64)) (5:Int) (4:Int) (@mput (Int) (Int) (Ty.beq (.int .i64)) (3:Int) (2:Int) ([]:List (Int × Int))))))))
abbrev Zwp:=Spec.shp Znj Zs5 Z8t
def Zgu:Ctx:=mC [] [] 3 0
theorem Z8u:Sound Tryz.prog 102 (Zwp) :=
 tS Zgu Tryz.f102 trivial
abbrev Zn8:Shape:=⟨sl_4,[.var (.pr (.hole y1) (.pr (.mp 1) (.pr (.hole y2) (.pr (.hole (.int .i64)) (.pr (.mp 2) (.pr (.mp 3) .nilm)))))),.mp y6 (.int .i64),.mp (.int .i64) (.int .i64),.mp (.int .i64) (.int .i64)],[y1,y2,(.int .i64),(.slice y8),(.slice y6),(.slice y6)],0⟩
abbrev Zru:Shape:=⟨[(0,(.mp 4))],[.var (.pr (.hole y1) (.pr (.mp 1) (.pr (.hole y2) (.pr (.hole (.int .i64)) (.pr (.mp 2) (.pr (.mp 3) .nilm)))))),.mp y6 (.int .i64),.mp (.int .i64) (.int .i64),.mp (.int .i64) (.int .i64),.fm [1,3,5,6,7,11,12,14,15] (.cons (.fn 156 .nil (.cons (.ptr 5 []) .nil)) (.cons (.fn 157 .nil (.cons (.ptr 5 []) .nil)) (.cons (.fn 159 .nil (.cons (.ptr 5 []) .nil)) (.cons (.fn 160 .nil (.cons (.ptr 5 []) .nil)) (.cons (.fn 161 .nil (.cons (.ptr 5 []) .nil)) (.cons (.fn 162 .nil (.cons (.ptr 6 []) .nil)) (.cons (.fn 163 .nil (.cons (.ptr 6 []) .nil)) (.cons (.fn 164 .nil (.cons (.ptr 5 []) .nil)) (.cons (.fn 165 .nil (.cons (.ptr 5 []) .nil)) .nil))))))))),.var (.ptr 0 []),.var (.fn 154 .nil (.cons (.ptr 5 []) .nil))],[y1,y2,(.int .i64),(.slice y8),(.slice y6),(.slice y6)],4⟩
def Z86 (x:(List Int × List Int × Int × List (T8) × List (Int × Int) × List (Int × Int))):Option (List Int × List Int × Int × List (T8) × List (Int × Int) × List (Int × Int)) :=
 some (x.1,x.2.1,x.2.2.1,x.2.2.2.1,x.2.2.2.2.1,x.2.2.2.2.2)
abbrev Zwe:=Spec.shp Zn8 Zru Z86
def Zgj:Ctx:=mC [] [] 16 4
theorem Z8s:Sound Tryz.prog 103 (Zwe) :=
 tS Zgj Tryz.f103 trivial
abbrev Zn2:Shape:=⟨sl_5,bl_0,ts_4,0⟩
abbrev Zro:Shape:=⟨sl_1,bl_0,ts_5,7⟩
def Z7t (x:T46):Option T30 :=
 let q:=x.2.2.2;
 let p:=(x.2.2.1,q.1,q.2.1,q.2.2.1,q.2.2.2.1,q.2.2.2.2);
 bif (inb x.2.1.1 8) then
 bif (decide ((getAt 0 q.1 (toN x.2.1.1)) > 0)) then
 some (false,p)
 else
 bif (x.2.1.2.2.1 != 0) then
 some (false,p)
 else
 bif (x.2.1.2.2.2.1 != 0) then
 some (false,p)
 else
 bif (x.2.1.1 == 0) then
 some ((x.2.1.2.2.2.2 == (Int.negSucc 0)),p)
 else
 bif (x.2.1.2.2.2.2 != (Int.negSucc 0)) then
 bif (inb x.2.1.2.2.2.2 (List.length x.1)) then
 bif ((getAt (0,0,0,0,0) x.1 (toN x.2.1.2.2.2.2)).2.1 == 1) then
 bif (inb x.2.1.2.2.2.2 (List.length x.1)) then
 some (((getAt (0,0,0,0,0) x.1 (toN x.2.1.2.2.2.2)).2.2.1 == x.2.1.1),p)
 else
 none
 else
 some (false,p)
 else
 none
 else
 some (false,p)
 else
 none
abbrev Zw8:=Spec.shp Zn2 Zro Z7t
def Zgd:Ctx:=mC [] [] 54 7
theorem Z7u:Sound Tryz.prog 222 (Zw8) :=
 tS Zgd Tryz.f222 trivial
abbrev Zn5:Shape:=⟨sl_6,bl_0,ts_6,0⟩
abbrev Zrr:Shape:=⟨sl_2,bl_0,ts_6,7⟩
def Z80 (x:T29):Option T29 :=
 let p:=x.2.2.2;
 let q:=p.2.2;
 (Z7p (x.1,2,7)).bind fun r17 =>
 bif r17 then
 some ((((List.length x.2.1):Nat):Int),x.2.1,x.2.2.1,p.1,p.2.1,q.1,q.2)
 else
 (Z7p (x.1,10,15)).bind fun r18 =>
 bif r18 then
 some (2,x.2.1,x.2.2.1,p.1,p.2.1,q.1,q.2)
 else
 (Z7p (x.1,8,17)).bind fun r19 =>
 bif r19 then
 some (4,x.2.1,x.2.2.1,p.1,p.2.1,q.1,q.2)
 else
 some (1,x.2.1,x.2.2.1,p.1,p.2.1,q.1,q.2)
abbrev Zwb:=Spec.shp Zn5 Zrr Z80
def Zgg:Ctx:=mC [(101,[],Zw6)] [] 19 7
theorem Z81:Sound Tryz.prog 223 (Zwb) :=
 tS Zgg Tryz.f223 ⟨Z7q,trivial⟩
abbrev Zn1:Shape:=⟨sl_5,bl_0,ts_4,0⟩
abbrev Zrn:Shape:=⟨sl_1,bl_0,ts_5,7⟩
def Z7r (x:T46):Option T30 :=
 let s:=x.2.2.2;
 let u:=s.2.2.2;
 let q:=(getAt ((0:Int),(0:Int),(0:Int),(0:Int),(0:Int)) x.1 (toN x.2.1.2.2.2.2));
 let p:=(x.2.2.1,s.1,s.2.1,s.2.2.1,u.1,u.2);
 bif (Bool.not (@mhas (Int) (Int) (Ty.beq (.int .i64)) x.2.1.2.1 u.2)) then
 some ((x.2.1.2.2.2.2 == (Int.negSucc 0)),p)
 else
 bif (x.2.1.2.2.2.2 == (Int.negSucc 0)) then
 some (false,p)
 else
 bif (inb x.2.1.1 8) then
 bif (x.2.1.2.2.2.2 != (IntKind.wrap .i64 ((getAt 0 s.1 (toN x.2.1.1)) - 1))) then
 some (false,p)
 else
 bif (inb x.2.1.2.2.2.2 (List.length x.1)) then
 bif (q.2.1 == (@mlook (Int) (Int) (Ty.beq (.int .i64)) (Ty.zero (.int .i64)) x.2.1.2.1 u.2)) then
 bif (q.2.2.1 == x.2.1.2.2.1) then
 some (true,p)
 else
 bif (q.2.1 == 8) then
 some ((decide (x.2.1.2.1 <= 6)),p)
 else
 some (false,p)
 else
 bif (q.2.1 == 8) then
 some ((decide (x.2.1.2.1 <= 6)),p)
 else
 some (false,p)
 else
 none
 else
 none
abbrev Zw7:=Spec.shp Zn1 Zrn Z7r
def Zgc:Ctx:=mC [] [] 67 7
theorem Z7s:Sound Tryz.prog 224 (Zw7) :=
 tS Zgc Tryz.f224 trivial
abbrev Znb:Shape:=⟨sl_7,bl_1,ts_7,0⟩
abbrev Zrx:Shape:=⟨sl_1,bl_1,ts_5,7⟩
def Z8b (x:T45):Option T30 :=
 let p:=x.2.2.2;
 some ((x.1.2.2.1 == p.1),x.2.1,x.2.2.1,p.1,p.2.1,p.2.2.1,p.2.2.2)
abbrev Zwh:=Spec.shp Znb Zrx Z8b
def Zgm:Ctx:=mC [] [] 11 7
theorem Z8c:Sound Tryz.prog 156 (Zwh) :=
 tS Zgm Tryz.f156 trivial
theorem Z8d:Sound Tryz.prog 156 (Spec.shpR Znb Zrx Z8b) :=
 Sound.shpR (fun x y h=>by have h:=Option.some.inj h; subst h; rfl) Z8c
abbrev Zn6:Shape:=⟨[(0,(.ptr 0 [])),(1,(.hole y31))],bl_0,ts_7,0⟩
abbrev Zrs:Shape:=⟨sl_1,bl_0,ts_5,7⟩
def Z82 (x:T45):Option T30 :=
 let p:=x.2.2.2;
 bif (inb x.1.2.2.1 (List.length x.2.1)) then
 some ((decide ((getAt 0 x.2.1 (toN x.1.2.2.1)) ≥ 0)),x.2.1,x.2.2.1,p.1,p.2.1,p.2.2.1,p.2.2.2)
 else
 none
abbrev Zwc:=Spec.shp Zn6 Zrs Z82
def Zgh:Ctx:=mC [] [] 14 7
theorem Z83:Sound Tryz.prog 158 (Zwc) :=
 tS Zgh Tryz.f158 trivial
abbrev Zn4:Shape:=⟨sl_8,bl_0,[(.int .i64),y31,y1,y2,(.int .i64),(.slice y8),(.slice y6),(.slice y6)],0⟩
abbrev Zrq:Shape:=⟨sl_2,bl_0,ts_6,7⟩
def Z7x (x:(Int × T20 × List Int × List Int × Int × List (T8) × List (Int × Int) × List (Int × Int))):Option T29 :=
 let p:=x.2.2.2.2;
 some ((@mlook (Int × Int) (Int) (Ty.beq y6) (Ty.zero (.int .i64)) (x.1,x.2.1.2.2.1) p.2.1),x.2.2.1,x.2.2.2.1,p.1,p.2.1,p.2.2.1,p.2.2.2)
abbrev Zwa:=Spec.shp Zn4 Zrq Z7x
def Zgf:Ctx:=mC [] [] 16 7
theorem Z7y:Sound Tryz.prog 155 (Zwa) :=
 tS Zgf Tryz.f155 trivial
theorem Z7z:Sound Tryz.prog 155 (Spec.shpR Zn4 Zrq Z7x) :=
 Sound.shpR (fun x y h=>by have h:=Option.some.inj h; subst h; rfl) Z7y
abbrev Znc:Shape:=⟨sl_7,bl_1,ts_7,0⟩
abbrev Zry:Shape:=⟨sl_1,bl_1,ts_5,7⟩
def Z8e (x:T45):Option T30 :=
 let s:=x.2.2.2;
 (Z82 (x.1,x.2.1,x.2.2.1,s.1,s.2.1,s.2.2.1,s.2.2.2)).bind fun r20 =>
 let q:=r20.2.2;
 let p:=(r20.2.1,q.1,q.2.1,q.2.2.1,q.2.2.2.1,q.2.2.2.2);
 bif r20.1 then
 (Z7x (7,x.1,p)).bind fun r21 =>
 bif (r21.1 == 0) then
 (Z7x (3,x.1,p)).bind fun r22 =>
 bif (x.1.2.2.2.1 == r22.1) then
 (Z7x (5,x.1,p)).bind fun r23 =>
 bif (inb x.1.2.2.1 (List.length r20.2.1)) then
 some ((decide (x.1.2.2.2.1 <= (IntKind.wrap .i64 (r23.1+(getAt 0 r20.2.1 (toN x.1.2.2.1)))))),p)
 else
 none
 else
 some (false,p)
 else
 some (false,p)
 else
 some (false,p)
abbrev Zwi:=Spec.shp Znc Zry Z8e
def Zgn:Ctx:=mC [(158,[],Spec.thin (Zwc)),(155,[],Spec.shpR Zn4 Zrq Z7x)] [] 38 7
theorem Z8f:Sound Tryz.prog 157 (Zwi) :=
 tS Zgn Tryz.f157 ⟨Z83.thin,Z7z,trivial⟩
abbrev Znd:Shape:=⟨sl_7,bl_1,ts_7,0⟩
abbrev Zrz:Shape:=⟨sl_1,bl_1,ts_5,7⟩
def Z8g (x:T45):Option T30 :=
 let u:=x.2.2.2;
 (Z82 (x.1,x.2.1,x.2.2.1,u.1,u.2.1,u.2.2.1,u.2.2.2)).bind fun r20 =>
 let s:=r20.2.2;
 let p:=s.2;
 let q:=p.2.2;
 bif r20.1 then
 (Z7x (5,x.1,r20.2.1,s.1,p.1,p.2.1,q.1,q.2)).bind fun r21 =>
 bif (x.1.2.2.2.1 == r21.1) then
 (Z7x (3,x.1,r20.2.1,s.1,p.1,p.2.1,q.1,q.2)).bind fun r22 =>
 some ((decide (x.1.2.2.2.1 <= r22.1)),r20.2.1,s.1,p.1,p.2.1,q.1,q.2)
 else
 some (false,r20.2.1,s.1,p.1,p.2.1,q.1,q.2)
 else
 some (false,r20.2.1,s.1,p.1,p.2.1,q.1,q.2)
abbrev Zwj:=Spec.shp Znd Zrz Z8g
def Zgo:Ctx:=mC [(158,[],Spec.thin (Zwc)),(155,[],Spec.shpR Zn4 Zrq Z7x)] [] 23 7
theorem Z8h:Sound Tryz.prog 159 (Zwj) :=
 tS Zgo Tryz.f159 ⟨Z83.thin,Z7z,trivial⟩
abbrev Zne:Shape:=⟨sl_7,bl_1,ts_7,0⟩
abbrev Zs0:Shape:=⟨sl_1,bl_1,ts_5,7⟩
def Z8i (x:T45):Option T30 :=
 let s:=x.2.2;
 let p:=s.2;
 let q:=p.2.2;
 (Z7x (7,x.1,x.2.1,s.1,p.1,p.2.1,q.1,q.2)).bind fun r20 =>
 bif (decide (r20.1 > 0)) then
 (Z7x (5,x.1,x.2.1,s.1,p.1,p.2.1,q.1,q.2)).bind fun r21 =>
 (Z7x (3,x.1,x.2.1,s.1,p.1,p.2.1,q.1,q.2)).bind fun r22 =>
 some ((r21.1 == r22.1),x.2.1,s.1,p.1,p.2.1,q.1,q.2)
 else
 some (false,x.2.1,s.1,p.1,p.2.1,q.1,q.2)
abbrev Zwk:=Spec.shp Zne Zs0 Z8i
def Zgp:Ctx:=mC [(155,[],Spec.shpR Zn4 Zrq Z7x)] [] 17 7
theorem Z8j:Sound Tryz.prog 160 (Zwk) :=
 tS Zgp Tryz.f160 ⟨Z7z,trivial⟩
abbrev Znf:Shape:=⟨sl_7,bl_1,ts_7,0⟩
abbrev Zs1:Shape:=⟨sl_1,bl_1,ts_5,7⟩
def Z8k (x:T45):Option T30 :=
 let u:=x.2.2.2;
 (Z82 (x.1,x.2.1,x.2.2.1,u.1,u.2.1,u.2.2.1,u.2.2.2)).bind fun r20 =>
 let s:=r20.2.2;
 let p:=s.2;
 let q:=p.2.2;
 bif r20.1 then
 (Z7x (7,x.1,r20.2.1,s.1,p.1,p.2.1,q.1,q.2)).bind fun r21 =>
 some ((r21.1 == 0),r20.2.1,s.1,p.1,p.2.1,q.1,q.2)
 else
 some (false,r20.2.1,s.1,p.1,p.2.1,q.1,q.2)
abbrev Zwl:=Spec.shp Znf Zs1 Z8k
def Zgq:Ctx:=mC [(158,[],Spec.thin (Zwc)),(155,[],Spec.shpR Zn4 Zrq Z7x)] [] 13 7
theorem Z8l:Sound Tryz.prog 161 (Zwl) :=
 tS Zgq Tryz.f161 ⟨Z83.thin,Z7z,trivial⟩
abbrev Zn9:Shape:=⟨sl_7,bl_1,ts_7,0⟩
abbrev Zrv:Shape:=⟨sl_2,bl_1,ts_6,7⟩
def Z87 (x:T45):Option T29 :=
 let p:=x.2.2.2;
 let q:=p.2.2;
 (Z7x (11,x.1,x.2.1,x.2.2.1,p.1,p.2.1,q.1,q.2)).bind fun r21 =>
 (Z7x (12,x.1,x.2.1,x.2.2.1,p.1,p.2.1,q.1,q.2)).bind fun r22 =>
 some ((IntKind.wrap .i64 (r21.1 - r22.1)),x.2.1,x.2.2.1,p.1,p.2.1,q.1,q.2)
abbrev Zwf:=Spec.shp Zn9 Zrv Z87
def Zgk:Ctx:=mC [(155,[],Spec.shpR Zn4 Zrq Z7x)] [] 11 7
theorem Z8a:Sound Tryz.prog 154 (Zwf) :=
 tS Zgk Tryz.f154 ⟨Z7z,trivial⟩
abbrev Zng:Shape:=⟨sl_7,bl_2,ts_7,0⟩
abbrev Zs2:Shape:=⟨sl_1,bl_2,ts_5,7⟩
def Z8m (x:T45):Option T30 :=
 let q:=x.2.2.2;
 (Z87 (x.1,x.2.1,x.2.2.1,q.1,q.2.1,q.2.2.1,q.2.2.2)).bind fun r20 =>
 let p:=r20.2.2;
 some ((r20.1 == 0),r20.2.1,p.1,p.2.1,p.2.2.1,p.2.2.2.1,p.2.2.2.2)
abbrev Zwm:=Spec.shp Zng Zs2 Z8m
def Zgr:Ctx:=mC [(154,[],Spec.thin (Zwf))] [] 8 7
theorem Z8n:Sound Tryz.prog 162 (Zwm) :=
 tS Zgr Tryz.f162 ⟨Z8a.thin,trivial⟩
abbrev Znh:Shape:=⟨sl_7,bl_2,ts_7,0⟩
abbrev Zs3:Shape:=⟨sl_1,bl_2,ts_5,7⟩
def Z8o (x:T45):Option T30 :=
 let q:=x.2.2.2;
 (Z87 (x.1,x.2.1,x.2.2.1,q.1,q.2.1,q.2.2.1,q.2.2.2)).bind fun r20 =>
 let p:=r20.2.2;
 some ((r20.1 == 1),r20.2.1,p.1,p.2.1,p.2.2.1,p.2.2.2.1,p.2.2.2.2)
abbrev Zwn:=Spec.shp Znh Zs3 Z8o
def Zgs:Ctx:=mC [(154,[],Spec.thin (Zwf))] [] 8 7
theorem Z8p:Sound Tryz.prog 163 (Zwn) :=
 tS Zgs Tryz.f163 ⟨Z8a.thin,trivial⟩
abbrev Zni:Shape:=⟨sl_7,bl_1,ts_7,0⟩
abbrev Zs4:Shape:=⟨sl_1,bl_1,ts_5,7⟩
def Z8q (x:T45):Option T30 :=
 let p:=x.2.2.2;
 let q:=p.2.2;
 (Z7x (14,x.1,x.2.1,x.2.2.1,p.1,p.2.1,q.1,q.2)).bind fun r20 =>
 bif (r20.1 == 0) then
 some (((@mlook (Int) (Int) (Ty.beq (.int .i64)) (Ty.zero (.int .i64)) x.1.2.2.1 q.1) == (IntKind.wrap .i64 (x.1.1+(1:Int)))),x.2.1,x.2.2.1,p.1,p.2.1,q.1,q.2)
 else
 some (false,x.2.1,x.2.2.1,p.1,p.2.1,q.1,q.2)
abbrev Zwo:=Spec.shp Zni Zs4 Z8q
def Zgt:Ctx:=mC [(155,[],Spec.shpR Zn4 Zrq Z7x)] [] 21 7
theorem Z8r:Sound Tryz.prog 164 (Zwo) :=
 tS Zgt Tryz.f164 ⟨Z7z,trivial⟩
abbrev Zna:Shape:=⟨sl_7,bl_1,ts_7,0⟩
abbrev Zrw:Shape:=⟨sl_1,bl_1,ts_5,7⟩
def Z88 (x:T45):Option T30 :=
 let p:=x.2.2.2;
 (Z7x (14,x.1,x.2.1,x.2.2.1,p.1,p.2.1,p.2.2.1,p.2.2.2)).bind fun r20 =>
 some ((decide (r20.1 > 0)),x.2.1,x.2.2.1,p.1,p.2.1,p.2.2.1,p.2.2.2)
abbrev Zwg:=Spec.shp Zna Zrw Z88
def Zgl:Ctx:=mC [(155,[],Spec.shpR Zn4 Zrq Z7x)] [] 8 7
theorem Z89:Sound Tryz.prog 165 (Zwg) :=
 tS Zgl Tryz.f165 ⟨Z7z,trivial⟩
abbrev Zn7:Shape:=⟨sl_5,bl_0,ts_4,0⟩
abbrev Zrt:Shape:=⟨sl_1,bl_0,ts_5,7⟩
def Z84 (x:T46):Option T30 :=
 let b:=Bool.not;
 let a:=IntKind.wrap .i64;
 let w:=x.2.2.2;
 let v:=(eqI x.2.1.2.1 (15:Int));
 let u:=(eqI x.2.1.2.1 (14:Int));
 let s:=(eqI x.2.1.2.1 (12:Int));
 let q:=(eqI x.2.1.2.1 (11:Int));
 let p:=(x.2.2.1,w.1,w.2.1,w.2.2.1,w.2.2.2.1,w.2.2.2.2);
 (Z7p (x.2.1.1,0,7)).bind fun r13 =>
 bif (b r13) then
 some (false,p)
 else
 (Z7p (x.2.1.2.1,0,17)).bind fun r14 =>
 bif (b r14) then
 some (false,p)
 else
 bif (decide (x.2.1.2.2.2.1 < 0)) then
 some (false,p)
 else
 (Z7p (x.2.1.2.2.2.2,(Int.negSucc 0),(a ((((List.length x.1):Nat):Int) - 1)))).bind fun r15 =>
 bif (b r15) then
 some (false,p)
 else
 bif (x.2.1.2.1 == 0) then
 (Z7t (x.1,x.2.1,p)).bind fun r16 =>
 some (r16.1,r16.2.1,r16.2.2.1,r16.2.2.2.1,r16.2.2.2.2.1,r16.2.2.2.2.2.1,r16.2.2.2.2.2.2)
 else
 bif (x.2.1.2.1 == 3) then
 bif (inb x.2.1.1 8) then
 bif ((getAt 0 w.1 (toN x.2.1.1)) == 0) then
 some (false,p)
 else
 bif (x.2.1.2.1 != 1) then
 (Z80 (x.2.1.2.1,p)).bind fun r16 =>
 (Z7p (x.2.1.2.2.1,0,(a (r16.1 - 1)))).bind fun r17 =>
 bif (b r17) then
 some (false,r16.2.1,r16.2.2.1,r16.2.2.2.1,r16.2.2.2.2.1,r16.2.2.2.2.2.1,r16.2.2.2.2.2.2)
 else
 (Z7r (x.1,x.2.1,r16.2.1,r16.2.2.1,r16.2.2.2.1,r16.2.2.2.2.1,r16.2.2.2.2.2.1,r16.2.2.2.2.2.2)).bind fun r18 =>
 bif (b r18.1) then
 some (false,r18.2.1,r18.2.2.1,r18.2.2.2.1,r18.2.2.2.2.1,r18.2.2.2.2.2.1,r18.2.2.2.2.2.2)
 else
 bif (eqI x.2.1.2.1 1) then
 (Z8b (x.2.1,r18.2.1,r18.2.2.1,r18.2.2.2.1,r18.2.2.2.2.1,r18.2.2.2.2.2.1,r18.2.2.2.2.2.2)).bind fun r19 =>
 some (r19.1,r18.2.1,r18.2.2.1,r18.2.2.2.1,r18.2.2.2.2.1,r18.2.2.2.2.2.1,r18.2.2.2.2.2.2)
 else
 bif (eqI x.2.1.2.1 3) then
 (Z8e (x.2.1,r18.2.1,r18.2.2.1,r18.2.2.2.1,r18.2.2.2.2.1,r18.2.2.2.2.2.1,r18.2.2.2.2.2.2)).bind fun r19 =>
 some (r19.1,r19.2.1,r19.2.2.1,r19.2.2.2.1,r19.2.2.2.2.1,r19.2.2.2.2.2.1,r19.2.2.2.2.2.2)
 else
 bif (eqI x.2.1.2.1 5) then
 (Z8g (x.2.1,r18.2.1,r18.2.2.1,r18.2.2.2.1,r18.2.2.2.2.1,r18.2.2.2.2.2.1,r18.2.2.2.2.2.2)).bind fun r19 =>
 some (r19.1,r19.2.1,r19.2.2.1,r19.2.2.2.1,r19.2.2.2.2.1,r19.2.2.2.2.2.1,r19.2.2.2.2.2.2)
 else
 bif (eqI x.2.1.2.1 6) then
 (Z8i (x.2.1,r18.2.1,r18.2.2.1,r18.2.2.2.1,r18.2.2.2.2.1,r18.2.2.2.2.2.1,r18.2.2.2.2.2.2)).bind fun r19 =>
 some (r19.1,r19.2.1,r19.2.2.1,r19.2.2.2.1,r19.2.2.2.2.1,r19.2.2.2.2.2.1,r19.2.2.2.2.2.2)
 else
 bif (eqI x.2.1.2.1 7) then
 (Z8k (x.2.1,r18.2.1,r18.2.2.1,r18.2.2.2.1,r18.2.2.2.2.1,r18.2.2.2.2.2.1,r18.2.2.2.2.2.2)).bind fun r19 =>
 some (r19.1,r19.2.1,r19.2.2.1,r19.2.2.2.1,r19.2.2.2.2.1,r19.2.2.2.2.2.1,r19.2.2.2.2.2.2)
 else
 bif q then
 (Z8m (x.2.1,r18.2.1,r18.2.2.1,r18.2.2.2.1,r18.2.2.2.2.1,r18.2.2.2.2.2.1,r18.2.2.2.2.2.2)).bind fun r19 =>
 some (r19.1,r19.2.1,r19.2.2.1,r19.2.2.2.1,r19.2.2.2.2.1,r19.2.2.2.2.2.1,r19.2.2.2.2.2.2)
 else
 bif s then
 (Z8o (x.2.1,r18.2.1,r18.2.2.1,r18.2.2.2.1,r18.2.2.2.2.1,r18.2.2.2.2.2.1,r18.2.2.2.2.2.2)).bind fun r19 =>
 some (r19.1,r19.2.1,r19.2.2.1,r19.2.2.2.1,r19.2.2.2.2.1,r19.2.2.2.2.2.1,r19.2.2.2.2.2.2)
 else
 bif u then
 (Z8q (x.2.1,r18.2.1,r18.2.2.1,r18.2.2.2.1,r18.2.2.2.2.1,r18.2.2.2.2.2.1,r18.2.2.2.2.2.2)).bind fun r19 =>
 some (r19.1,r19.2.1,r19.2.2.1,r19.2.2.2.1,r19.2.2.2.2.1,r19.2.2.2.2.2.1,r19.2.2.2.2.2.2)
 else
 bif v then
 (Z88 (x.2.1,r18.2.1,r18.2.2.1,r18.2.2.2.1,r18.2.2.2.2.1,r18.2.2.2.2.2.1,r18.2.2.2.2.2.2)).bind fun r19 =>
 some (r19.1,r19.2.1,r19.2.2.1,r19.2.2.2.1,r19.2.2.2.2.1,r19.2.2.2.2.2.1,r19.2.2.2.2.2.2)
 else
 some (true,r18.2.1,r18.2.2.1,r18.2.2.2.1,r18.2.2.2.2.1,r18.2.2.2.2.2.1,r18.2.2.2.2.2.2)
 else
 (Z7r (x.1,x.2.1,p)).bind fun r16 =>
 bif (b r16.1) then
 some (false,r16.2.1,r16.2.2.1,r16.2.2.2.1,r16.2.2.2.2.1,r16.2.2.2.2.2.1,r16.2.2.2.2.2.2)
 else
 bif (eqI x.2.1.2.1 1) then
 (Z8b (x.2.1,r16.2.1,r16.2.2.1,r16.2.2.2.1,r16.2.2.2.2.1,r16.2.2.2.2.2.1,r16.2.2.2.2.2.2)).bind fun r17 =>
 some (r17.1,r16.2.1,r16.2.2.1,r16.2.2.2.1,r16.2.2.2.2.1,r16.2.2.2.2.2.1,r16.2.2.2.2.2.2)
 else
 bif (eqI x.2.1.2.1 3) then
 (Z8e (x.2.1,r16.2.1,r16.2.2.1,r16.2.2.2.1,r16.2.2.2.2.1,r16.2.2.2.2.2.1,r16.2.2.2.2.2.2)).bind fun r17 =>
 some (r17.1,r17.2.1,r17.2.2.1,r17.2.2.2.1,r17.2.2.2.2.1,r17.2.2.2.2.2.1,r17.2.2.2.2.2.2)
 else
 bif (eqI x.2.1.2.1 5) then
 (Z8g (x.2.1,r16.2.1,r16.2.2.1,r16.2.2.2.1,r16.2.2.2.2.1,r16.2.2.2.2.2.1,r16.2.2.2.2.2.2)).bind fun r17 =>
 some (r17.1,r17.2.1,r17.2.2.1,r17.2.2.2.1,r17.2.2.2.2.1,r17.2.2.2.2.2.1,r17.2.2.2.2.2.2)
 else
 bif (eqI x.2.1.2.1 6) then
 (Z8i (x.2.1,r16.2.1,r16.2.2.1,r16.2.2.2.1,r16.2.2.2.2.1,r16.2.2.2.2.2.1,r16.2.2.2.2.2.2)).bind fun r17 =>
 some (r17.1,r17.2.1,r17.2.2.1,r17.2.2.2.1,r17.2.2.2.2.1,r17.2.2.2.2.2.1,r17.2.2.2.2.2.2)
 else
 bif (eqI x.2.1.2.1 7) then
 (Z8k (x.2.1,r16.2.1,r16.2.2.1,r16.2.2.2.1,r16.2.2.2.2.1,r16.2.2.2.2.2.1,r16.2.2.2.2.2.2)).bind fun r17 =>
 some (r17.1,r17.2.1,r17.2.2.1,r17.2.2.2.1,r17.2.2.2.2.1,r17.2.2.2.2.2.1,r17.2.2.2.2.2.2)
 else
 bif q then
 (Z8m (x.2.1,r16.2.1,r16.2.2.1,r16.2.2.2.1,r16.2.2.2.2.1,r16.2.2.2.2.2.1,r16.2.2.2.2.2.2)).bind fun r17 =>
 some (r17.1,r17.2.1,r17.2.2.1,r17.2.2.2.1,r17.2.2.2.2.1,r17.2.2.2.2.2.1,r17.2.2.2.2.2.2)
 else
 bif s then
 (Z8o (x.2.1,r16.2.1,r16.2.2.1,r16.2.2.2.1,r16.2.2.2.2.1,r16.2.2.2.2.2.1,r16.2.2.2.2.2.2)).bind fun r17 =>
 some (r17.1,r17.2.1,r17.2.2.1,r17.2.2.2.1,r17.2.2.2.2.1,r17.2.2.2.2.2.1,r17.2.2.2.2.2.2)
 else
 bif u then
 (Z8q (x.2.1,r16.2.1,r16.2.2.1,r16.2.2.2.1,r16.2.2.2.2.1,r16.2.2.2.2.2.1,r16.2.2.2.2.2.2)).bind fun r17 =>
 some (r17.1,r17.2.1,r17.2.2.1,r17.2.2.2.1,r17.2.2.2.2.1,r17.2.2.2.2.2.1,r17.2.2.2.2.2.2)
 else
 bif v then
 (Z88 (x.2.1,r16.2.1,r16.2.2.1,r16.2.2.2.1,r16.2.2.2.2.1,r16.2.2.2.2.2.1,r16.2.2.2.2.2.2)).bind fun r17 =>
 some (r17.1,r17.2.1,r17.2.2.1,r17.2.2.2.1,r17.2.2.2.2.1,r17.2.2.2.2.2.1,r17.2.2.2.2.2.2)
 else
 some (true,r16.2.1,r16.2.2.1,r16.2.2.2.1,r16.2.2.2.2.1,r16.2.2.2.2.2.1,r16.2.2.2.2.2.2)
 else
 none
 else
 bif (inb x.2.1.1 8) then
 bif ((getAt 0 w.1 (toN x.2.1.1)) == 0) then
 some (false,p)
 else
 bif (b (x.2.1.2.1 == 5)) then
 bif (x.2.1.2.2.2.1 != 0) then
 some (false,p)
 else
 bif (x.2.1.2.1 != 1) then
 (Z80 (x.2.1.2.1,p)).bind fun r16 =>
 (Z7p (x.2.1.2.2.1,0,(a (r16.1 - 1)))).bind fun r17 =>
 bif (b r17) then
 some (false,r16.2.1,r16.2.2.1,r16.2.2.2.1,r16.2.2.2.2.1,r16.2.2.2.2.2.1,r16.2.2.2.2.2.2)
 else
 (Z7r (x.1,x.2.1,r16.2.1,r16.2.2.1,r16.2.2.2.1,r16.2.2.2.2.1,r16.2.2.2.2.2.1,r16.2.2.2.2.2.2)).bind fun r18 =>
 bif (b r18.1) then
 some (false,r18.2.1,r18.2.2.1,r18.2.2.2.1,r18.2.2.2.2.1,r18.2.2.2.2.2.1,r18.2.2.2.2.2.2)
 else
 bif (eqI x.2.1.2.1 1) then
 (Z8b (x.2.1,r18.2.1,r18.2.2.1,r18.2.2.2.1,r18.2.2.2.2.1,r18.2.2.2.2.2.1,r18.2.2.2.2.2.2)).bind fun r19 =>
 some (r19.1,r18.2.1,r18.2.2.1,r18.2.2.2.1,r18.2.2.2.2.1,r18.2.2.2.2.2.1,r18.2.2.2.2.2.2)
 else
 bif (eqI x.2.1.2.1 3) then
 (Z8e (x.2.1,r18.2.1,r18.2.2.1,r18.2.2.2.1,r18.2.2.2.2.1,r18.2.2.2.2.2.1,r18.2.2.2.2.2.2)).bind fun r19 =>
 some (r19.1,r19.2.1,r19.2.2.1,r19.2.2.2.1,r19.2.2.2.2.1,r19.2.2.2.2.2.1,r19.2.2.2.2.2.2)
 else
 bif (eqI x.2.1.2.1 5) then
 (Z8g (x.2.1,r18.2.1,r18.2.2.1,r18.2.2.2.1,r18.2.2.2.2.1,r18.2.2.2.2.2.1,r18.2.2.2.2.2.2)).bind fun r19 =>
 some (r19.1,r19.2.1,r19.2.2.1,r19.2.2.2.1,r19.2.2.2.2.1,r19.2.2.2.2.2.1,r19.2.2.2.2.2.2)
 else
 bif (eqI x.2.1.2.1 6) then
 (Z8i (x.2.1,r18.2.1,r18.2.2.1,r18.2.2.2.1,r18.2.2.2.2.1,r18.2.2.2.2.2.1,r18.2.2.2.2.2.2)).bind fun r19 =>
 some (r19.1,r19.2.1,r19.2.2.1,r19.2.2.2.1,r19.2.2.2.2.1,r19.2.2.2.2.2.1,r19.2.2.2.2.2.2)
 else
 bif (eqI x.2.1.2.1 7) then
 (Z8k (x.2.1,r18.2.1,r18.2.2.1,r18.2.2.2.1,r18.2.2.2.2.1,r18.2.2.2.2.2.1,r18.2.2.2.2.2.2)).bind fun r19 =>
 some (r19.1,r19.2.1,r19.2.2.1,r19.2.2.2.1,r19.2.2.2.2.1,r19.2.2.2.2.2.1,r19.2.2.2.2.2.2)
 else
 bif q then
 (Z8m (x.2.1,r18.2.1,r18.2.2.1,r18.2.2.2.1,r18.2.2.2.2.1,r18.2.2.2.2.2.1,r18.2.2.2.2.2.2)).bind fun r19 =>
 some (r19.1,r19.2.1,r19.2.2.1,r19.2.2.2.1,r19.2.2.2.2.1,r19.2.2.2.2.2.1,r19.2.2.2.2.2.2)
 else
 bif s then
 (Z8o (x.2.1,r18.2.1,r18.2.2.1,r18.2.2.2.1,r18.2.2.2.2.1,r18.2.2.2.2.2.1,r18.2.2.2.2.2.2)).bind fun r19 =>
 some (r19.1,r19.2.1,r19.2.2.1,r19.2.2.2.1,r19.2.2.2.2.1,r19.2.2.2.2.2.1,r19.2.2.2.2.2.2)
 else
 bif u then
 (Z8q (x.2.1,r18.2.1,r18.2.2.1,r18.2.2.2.1,r18.2.2.2.2.1,r18.2.2.2.2.2.1,r18.2.2.2.2.2.2)).bind fun r19 =>
 some (r19.1,r19.2.1,r19.2.2.1,r19.2.2.2.1,r19.2.2.2.2.1,r19.2.2.2.2.2.1,r19.2.2.2.2.2.2)
 else
 bif v then
 (Z88 (x.2.1,r18.2.1,r18.2.2.1,r18.2.2.2.1,r18.2.2.2.2.1,r18.2.2.2.2.2.1,r18.2.2.2.2.2.2)).bind fun r19 =>
 some (r19.1,r19.2.1,r19.2.2.1,r19.2.2.2.1,r19.2.2.2.2.1,r19.2.2.2.2.2.1,r19.2.2.2.2.2.2)
 else
 some (true,r18.2.1,r18.2.2.1,r18.2.2.2.1,r18.2.2.2.2.1,r18.2.2.2.2.2.1,r18.2.2.2.2.2.2)
 else
 (Z7r (x.1,x.2.1,p)).bind fun r16 =>
 bif (b r16.1) then
 some (false,r16.2.1,r16.2.2.1,r16.2.2.2.1,r16.2.2.2.2.1,r16.2.2.2.2.2.1,r16.2.2.2.2.2.2)
 else
 bif (eqI x.2.1.2.1 1) then
 (Z8b (x.2.1,r16.2.1,r16.2.2.1,r16.2.2.2.1,r16.2.2.2.2.1,r16.2.2.2.2.2.1,r16.2.2.2.2.2.2)).bind fun r17 =>
 some (r17.1,r16.2.1,r16.2.2.1,r16.2.2.2.1,r16.2.2.2.2.1,r16.2.2.2.2.2.1,r16.2.2.2.2.2.2)
 else
 bif (eqI x.2.1.2.1 3) then
 (Z8e (x.2.1,r16.2.1,r16.2.2.1,r16.2.2.2.1,r16.2.2.2.2.1,r16.2.2.2.2.2.1,r16.2.2.2.2.2.2)).bind fun r17 =>
 some (r17.1,r17.2.1,r17.2.2.1,r17.2.2.2.1,r17.2.2.2.2.1,r17.2.2.2.2.2.1,r17.2.2.2.2.2.2)
 else
 bif (eqI x.2.1.2.1 5) then
 (Z8g (x.2.1,r16.2.1,r16.2.2.1,r16.2.2.2.1,r16.2.2.2.2.1,r16.2.2.2.2.2.1,r16.2.2.2.2.2.2)).bind fun r17 =>
 some (r17.1,r17.2.1,r17.2.2.1,r17.2.2.2.1,r17.2.2.2.2.1,r17.2.2.2.2.2.1,r17.2.2.2.2.2.2)
 else
 bif (eqI x.2.1.2.1 6) then
 (Z8i (x.2.1,r16.2.1,r16.2.2.1,r16.2.2.2.1,r16.2.2.2.2.1,r16.2.2.2.2.2.1,r16.2.2.2.2.2.2)).bind fun r17 =>
 some (r17.1,r17.2.1,r17.2.2.1,r17.2.2.2.1,r17.2.2.2.2.1,r17.2.2.2.2.2.1,r17.2.2.2.2.2.2)
 else
 bif (eqI x.2.1.2.1 7) then
 (Z8k (x.2.1,r16.2.1,r16.2.2.1,r16.2.2.2.1,r16.2.2.2.2.1,r16.2.2.2.2.2.1,r16.2.2.2.2.2.2)).bind fun r17 =>
 some (r17.1,r17.2.1,r17.2.2.1,r17.2.2.2.1,r17.2.2.2.2.1,r17.2.2.2.2.2.1,r17.2.2.2.2.2.2)
 else
 bif q then
 (Z8m (x.2.1,r16.2.1,r16.2.2.1,r16.2.2.2.1,r16.2.2.2.2.1,r16.2.2.2.2.2.1,r16.2.2.2.2.2.2)).bind fun r17 =>
 some (r17.1,r17.2.1,r17.2.2.1,r17.2.2.2.1,r17.2.2.2.2.1,r17.2.2.2.2.2.1,r17.2.2.2.2.2.2)
 else
 bif s then
 (Z8o (x.2.1,r16.2.1,r16.2.2.1,r16.2.2.2.1,r16.2.2.2.2.1,r16.2.2.2.2.2.1,r16.2.2.2.2.2.2)).bind fun r17 =>
 some (r17.1,r17.2.1,r17.2.2.1,r17.2.2.2.1,r17.2.2.2.2.1,r17.2.2.2.2.2.1,r17.2.2.2.2.2.2)
 else
 bif u then
 (Z8q (x.2.1,r16.2.1,r16.2.2.1,r16.2.2.2.1,r16.2.2.2.2.1,r16.2.2.2.2.2.1,r16.2.2.2.2.2.2)).bind fun r17 =>
 some (r17.1,r17.2.1,r17.2.2.1,r17.2.2.2.1,r17.2.2.2.2.1,r17.2.2.2.2.2.1,r17.2.2.2.2.2.2)
 else
 bif v then
 (Z88 (x.2.1,r16.2.1,r16.2.2.1,r16.2.2.2.1,r16.2.2.2.2.1,r16.2.2.2.2.2.1,r16.2.2.2.2.2.2)).bind fun r17 =>
 some (r17.1,r17.2.1,r17.2.2.1,r17.2.2.2.1,r17.2.2.2.2.1,r17.2.2.2.2.2.1,r17.2.2.2.2.2.2)
 else
 some (true,r16.2.1,r16.2.2.1,r16.2.2.2.1,r16.2.2.2.2.1,r16.2.2.2.2.2.1,r16.2.2.2.2.2.2)
 else
 bif (x.2.1.2.1 != 1) then
 (Z80 (x.2.1.2.1,p)).bind fun r16 =>
 (Z7p (x.2.1.2.2.1,0,(a (r16.1 - 1)))).bind fun r17 =>
 bif (b r17) then
 some (false,r16.2.1,r16.2.2.1,r16.2.2.2.1,r16.2.2.2.2.1,r16.2.2.2.2.2.1,r16.2.2.2.2.2.2)
 else
 (Z7r (x.1,x.2.1,r16.2.1,r16.2.2.1,r16.2.2.2.1,r16.2.2.2.2.1,r16.2.2.2.2.2.1,r16.2.2.2.2.2.2)).bind fun r18 =>
 bif (b r18.1) then
 some (false,r18.2.1,r18.2.2.1,r18.2.2.2.1,r18.2.2.2.2.1,r18.2.2.2.2.2.1,r18.2.2.2.2.2.2)
 else
 bif (eqI x.2.1.2.1 1) then
 (Z8b (x.2.1,r18.2.1,r18.2.2.1,r18.2.2.2.1,r18.2.2.2.2.1,r18.2.2.2.2.2.1,r18.2.2.2.2.2.2)).bind fun r19 =>
 some (r19.1,r18.2.1,r18.2.2.1,r18.2.2.2.1,r18.2.2.2.2.1,r18.2.2.2.2.2.1,r18.2.2.2.2.2.2)
 else
 bif (eqI x.2.1.2.1 3) then
 (Z8e (x.2.1,r18.2.1,r18.2.2.1,r18.2.2.2.1,r18.2.2.2.2.1,r18.2.2.2.2.2.1,r18.2.2.2.2.2.2)).bind fun r19 =>
 some (r19.1,r19.2.1,r19.2.2.1,r19.2.2.2.1,r19.2.2.2.2.1,r19.2.2.2.2.2.1,r19.2.2.2.2.2.2)
 else
 bif (eqI x.2.1.2.1 5) then
 (Z8g (x.2.1,r18.2.1,r18.2.2.1,r18.2.2.2.1,r18.2.2.2.2.1,r18.2.2.2.2.2.1,r18.2.2.2.2.2.2)).bind fun r19 =>
 some (r19.1,r19.2.1,r19.2.2.1,r19.2.2.2.1,r19.2.2.2.2.1,r19.2.2.2.2.2.1,r19.2.2.2.2.2.2)
 else
 bif (eqI x.2.1.2.1 6) then
 (Z8i (x.2.1,r18.2.1,r18.2.2.1,r18.2.2.2.1,r18.2.2.2.2.1,r18.2.2.2.2.2.1,r18.2.2.2.2.2.2)).bind fun r19 =>
 some (r19.1,r19.2.1,r19.2.2.1,r19.2.2.2.1,r19.2.2.2.2.1,r19.2.2.2.2.2.1,r19.2.2.2.2.2.2)
 else
 bif (eqI x.2.1.2.1 7) then
 (Z8k (x.2.1,r18.2.1,r18.2.2.1,r18.2.2.2.1,r18.2.2.2.2.1,r18.2.2.2.2.2.1,r18.2.2.2.2.2.2)).bind fun r19 =>
 some (r19.1,r19.2.1,r19.2.2.1,r19.2.2.2.1,r19.2.2.2.2.1,r19.2.2.2.2.2.1,r19.2.2.2.2.2.2)
 else
 bif q then
 (Z8m (x.2.1,r18.2.1,r18.2.2.1,r18.2.2.2.1,r18.2.2.2.2.1,r18.2.2.2.2.2.1,r18.2.2.2.2.2.2)).bind fun r19 =>
 some (r19.1,r19.2.1,r19.2.2.1,r19.2.2.2.1,r19.2.2.2.2.1,r19.2.2.2.2.2.1,r19.2.2.2.2.2.2)
 else
 bif s then
 (Z8o (x.2.1,r18.2.1,r18.2.2.1,r18.2.2.2.1,r18.2.2.2.2.1,r18.2.2.2.2.2.1,r18.2.2.2.2.2.2)).bind fun r19 =>
 some (r19.1,r19.2.1,r19.2.2.1,r19.2.2.2.1,r19.2.2.2.2.1,r19.2.2.2.2.2.1,r19.2.2.2.2.2.2)
 else
 bif u then
 (Z8q (x.2.1,r18.2.1,r18.2.2.1,r18.2.2.2.1,r18.2.2.2.2.1,r18.2.2.2.2.2.1,r18.2.2.2.2.2.2)).bind fun r19 =>
 some (r19.1,r19.2.1,r19.2.2.1,r19.2.2.2.1,r19.2.2.2.2.1,r19.2.2.2.2.2.1,r19.2.2.2.2.2.2)
 else
 bif v then
 (Z88 (x.2.1,r18.2.1,r18.2.2.1,r18.2.2.2.1,r18.2.2.2.2.1,r18.2.2.2.2.2.1,r18.2.2.2.2.2.2)).bind fun r19 =>
 some (r19.1,r19.2.1,r19.2.2.1,r19.2.2.2.1,r19.2.2.2.2.1,r19.2.2.2.2.2.1,r19.2.2.2.2.2.2)
 else
 some (true,r18.2.1,r18.2.2.1,r18.2.2.2.1,r18.2.2.2.2.1,r18.2.2.2.2.2.1,r18.2.2.2.2.2.2)
 else
 (Z7r (x.1,x.2.1,p)).bind fun r16 =>
 bif (b r16.1) then
 some (false,r16.2.1,r16.2.2.1,r16.2.2.2.1,r16.2.2.2.2.1,r16.2.2.2.2.2.1,r16.2.2.2.2.2.2)
 else
 bif (eqI x.2.1.2.1 1) then
 (Z8b (x.2.1,r16.2.1,r16.2.2.1,r16.2.2.2.1,r16.2.2.2.2.1,r16.2.2.2.2.2.1,r16.2.2.2.2.2.2)).bind fun r17 =>
 some (r17.1,r16.2.1,r16.2.2.1,r16.2.2.2.1,r16.2.2.2.2.1,r16.2.2.2.2.2.1,r16.2.2.2.2.2.2)
 else
 bif (eqI x.2.1.2.1 3) then
 (Z8e (x.2.1,r16.2.1,r16.2.2.1,r16.2.2.2.1,r16.2.2.2.2.1,r16.2.2.2.2.2.1,r16.2.2.2.2.2.2)).bind fun r17 =>
 some (r17.1,r17.2.1,r17.2.2.1,r17.2.2.2.1,r17.2.2.2.2.1,r17.2.2.2.2.2.1,r17.2.2.2.2.2.2)
 else
 bif (eqI x.2.1.2.1 5) then
 (Z8g (x.2.1,r16.2.1,r16.2.2.1,r16.2.2.2.1,r16.2.2.2.2.1,r16.2.2.2.2.2.1,r16.2.2.2.2.2.2)).bind fun r17 =>
 some (r17.1,r17.2.1,r17.2.2.1,r17.2.2.2.1,r17.2.2.2.2.1,r17.2.2.2.2.2.1,r17.2.2.2.2.2.2)
 else
 bif (eqI x.2.1.2.1 6) then
 (Z8i (x.2.1,r16.2.1,r16.2.2.1,r16.2.2.2.1,r16.2.2.2.2.1,r16.2.2.2.2.2.1,r16.2.2.2.2.2.2)).bind fun r17 =>
 some (r17.1,r17.2.1,r17.2.2.1,r17.2.2.2.1,r17.2.2.2.2.1,r17.2.2.2.2.2.1,r17.2.2.2.2.2.2)
 else
 bif (eqI x.2.1.2.1 7) then
 (Z8k (x.2.1,r16.2.1,r16.2.2.1,r16.2.2.2.1,r16.2.2.2.2.1,r16.2.2.2.2.2.1,r16.2.2.2.2.2.2)).bind fun r17 =>
 some (r17.1,r17.2.1,r17.2.2.1,r17.2.2.2.1,r17.2.2.2.2.1,r17.2.2.2.2.2.1,r17.2.2.2.2.2.2)
 else
 bif q then
 (Z8m (x.2.1,r16.2.1,r16.2.2.1,r16.2.2.2.1,r16.2.2.2.2.1,r16.2.2.2.2.2.1,r16.2.2.2.2.2.2)).bind fun r17 =>
 some (r17.1,r17.2.1,r17.2.2.1,r17.2.2.2.1,r17.2.2.2.2.1,r17.2.2.2.2.2.1,r17.2.2.2.2.2.2)
 else
 bif s then
 (Z8o (x.2.1,r16.2.1,r16.2.2.1,r16.2.2.2.1,r16.2.2.2.2.1,r16.2.2.2.2.2.1,r16.2.2.2.2.2.2)).bind fun r17 =>
 some (r17.1,r17.2.1,r17.2.2.1,r17.2.2.2.1,r17.2.2.2.2.1,r17.2.2.2.2.2.1,r17.2.2.2.2.2.2)
 else
 bif u then
 (Z8q (x.2.1,r16.2.1,r16.2.2.1,r16.2.2.2.1,r16.2.2.2.2.1,r16.2.2.2.2.2.1,r16.2.2.2.2.2.2)).bind fun r17 =>
 some (r17.1,r17.2.1,r17.2.2.1,r17.2.2.2.1,r17.2.2.2.2.1,r17.2.2.2.2.2.1,r17.2.2.2.2.2.2)
 else
 bif v then
 (Z88 (x.2.1,r16.2.1,r16.2.2.1,r16.2.2.2.1,r16.2.2.2.2.1,r16.2.2.2.2.2.1,r16.2.2.2.2.2.2)).bind fun r17 =>
 some (r17.1,r17.2.1,r17.2.2.1,r17.2.2.2.1,r17.2.2.2.2.1,r17.2.2.2.2.2.1,r17.2.2.2.2.2.2)
 else
 some (true,r16.2.1,r16.2.2.1,r16.2.2.2.1,r16.2.2.2.2.1,r16.2.2.2.2.2.1,r16.2.2.2.2.2.2)
 else
 none
abbrev Zwd:=Spec.shp Zn7 Zrt Z84
def Zgi:Ctx:=mC [(101,[],Zw6),(222,[],Spec.thin (Zw8)),(223,[],Spec.thin (Zwb)),(224,[],Spec.thin (Zw7)),(156,[],Spec.shpR Znb Zrx Z8b),(157,[],Spec.thin (Zwi)),(159,[],Spec.thin (Zwj)),(160,[],Spec.thin (Zwk)),(161,[],Spec.thin (Zwl)),(162,[],Spec.thin (Zwm)),(163,[],Spec.thin (Zwn)),(164,[],Spec.thin (Zwo)),(165,[],Spec.thin (Zwg))] [] 106 7
theorem Z85:Sound Tryz.prog 166 (Zwd) :=
 tS Zgi Tryz.f166 ⟨Z7q,Z7u.thin,Z81.thin,Z7s.thin,Z8d,Z8f.thin,Z8h.thin,Z8j.thin,Z8l.thin,Z8n.thin,Z8p.thin,Z8r.thin,Z89.thin,trivial⟩
abbrev Zn3:Shape:=⟨sl_5,bl_0,ts_4,0⟩
abbrev Zrp:Shape:=⟨sl_1,bl_0,ts_5,7⟩
def Z7v (x:T46):Option T30 :=
 let v:=IntKind.wrap .i64;
 let u:=x.2.2.2;
 (Z84 (x.1,x.2.1,x.2.2.1,u.1,u.2.1,u.2.2.1,u.2.2.2.1,u.2.2.2.2)).bind fun r12 =>
 let s:=r12.2.2;
 let q:=s.2.2;
 let p:=(List.set s.1 (toN x.2.1.1) (v ((((List.length x.1):Nat):Int)+(1:Int))));
 bif (Bool.not r12.1) then
 some (false,r12.2.1,s.1,s.2.1,q.1,q.2.1,q.2.2)
 else
 bif (inb (natI (@mpos (Int × Int) (Int) (Ty.beq y6) (x.2.1.2.1,x.2.1.2.2.1) q.1)) (List.length (@mput (Int × Int) (Int) (Ty.beq y6) (x.2.1.2.1,x.2.1.2.2.1) (@mlook (Int × Int) (Int) (Ty.beq y6) (Ty.zero (.int .i64)) (x.2.1.2.1,x.2.1.2.2.1) q.1) q.1))) then
 bif (inb x.2.1.1 8) then
 bif (x.2.1.2.1 == 0) then
 some (true,r12.2.1,p,(v (s.2.1+(1:Int))),(mset (@mput (Int × Int) (Int) (Ty.beq y6) (x.2.1.2.1,x.2.1.2.2.1) (@mlook (Int × Int) (Int) (Ty.beq y6) (Ty.zero (.int .i64)) (x.2.1.2.1,x.2.1.2.2.1) q.1) q.1) (toN (natI (@mpos (Int × Int) (Int) (Ty.beq y6) (x.2.1.2.1,x.2.1.2.2.1) q.1))) (v ((@mlook (Int × Int) (Int) (Ty.beq y6) (Ty.zero (.int .i64)) (x.2.1.2.1,x.2.1.2.2.1) q.1)+(1:Int)))),q.2.1,q.2.2)
 else
 bif (x.2.1.2.1 == 13) then
 bif ((@mlook (Int) (Int) (Ty.beq (.int .i64)) (Ty.zero (.int .i64)) x.2.1.2.2.1 q.2.1) == (0:Int)) then
 some (true,r12.2.1,p,s.2.1,(mset (@mput (Int × Int) (Int) (Ty.beq y6) (x.2.1.2.1,x.2.1.2.2.1) (@mlook (Int × Int) (Int) (Ty.beq y6) (Ty.zero (.int .i64)) (x.2.1.2.1,x.2.1.2.2.1) q.1) q.1) (toN (natI (@mpos (Int × Int) (Int) (Ty.beq y6) (x.2.1.2.1,x.2.1.2.2.1) q.1))) (v ((@mlook (Int × Int) (Int) (Ty.beq y6) (Ty.zero (.int .i64)) (x.2.1.2.1,x.2.1.2.2.1) q.1)+(1:Int)))),(@mput (Int) (Int) (Ty.beq (.int .i64)) x.2.1.2.2.1 (v (x.2.1.1+(1:Int))) q.2.1),q.2.2)
 else
 some (true,r12.2.1,p,s.2.1,(mset (@mput (Int × Int) (Int) (Ty.beq y6) (x.2.1.2.1,x.2.1.2.2.1) (@mlook (Int × Int) (Int) (Ty.beq y6) (Ty.zero (.int .i64)) (x.2.1.2.1,x.2.1.2.2.1) q.1) q.1) (toN (natI (@mpos (Int × Int) (Int) (Ty.beq y6) (x.2.1.2.1,x.2.1.2.2.1) q.1))) (v ((@mlook (Int × Int) (Int) (Ty.beq y6) (Ty.zero (.int .i64)) (x.2.1.2.1,x.2.1.2.2.1) q.1)+(1:Int)))),q.2.1,q.2.2)
 else
 some (true,r12.2.1,p,s.2.1,(mset (@mput (Int × Int) (Int) (Ty.beq y6) (x.2.1.2.1,x.2.1.2.2.1) (@mlook (Int × Int) (Int) (Ty.beq y6) (Ty.zero (.int .i64)) (x.2.1.2.1,x.2.1.2.2.1) q.1) q.1) (toN (natI (@mpos (Int × Int) (Int) (Ty.beq y6) (x.2.1.2.1,x.2.1.2.2.1) q.1))) (v ((@mlook (Int × Int) (Int) (Ty.beq y6) (Ty.zero (.int .i64)) (x.2.1.2.1,x.2.1.2.2.1) q.1)+(1:Int)))),q.2.1,q.2.2)
 else
 none
 else
 none
abbrev Zw9:=Spec.shp Zn3 Zrp Z7v
def Zge:Ctx:=mC [(166,[],Spec.thin (Zwd))] [] 64 7
theorem Z7w:Sound Tryz.prog 104 (Zw9) :=
 tS Zge Tryz.f104 ⟨Z85.thin,trivial⟩
abbrev Zj5:Shape:=⟨[(1,(.hole y36)),(6,(.ptr 0 [])),(27,(.hole y36)),(28,(.hole (.int .i64))),(29,(.hole (.int .i64)))],bl_0,[y36,y36,(.int .i64),(.int .i64),y1,y2,(.int .i64),(.slice y8),(.slice y6),(.slice y6)],0⟩
abbrev Zi4:List (ETag × Shape):=[(.ret,⟨[(4,(.hole (.int .i64))),(5,(.hole (.int .i64)))],[],ts_8,0⟩),(.exit 0,⟨[],[],[],0⟩)]
def Zbd (x:(List (T20) × List (T20) × Int × Int × List Int × List Int × Int × List (T8) × List (Int × Int) × List (Int × Int))):Option ((List (T20) × List (T20) × Int × Int × List Int × List Int × Int × List (T8) × List (Int × Int) × List (Int × Int)) ⊕ ((Int × Int) ⊕ Unit)) :=
 let p:=x.2.2.2;
 let s:=p.2.2.2;
 bif (decide (p.1 < x.2.2.1)) then
 bif (inb p.1 (List.length x.2.1)) then
 bif (sub3 0 p.1 (List.length x.1)) then
 (Z7v ((cut x.1 (toN 0) ((toN p.1) - (toN 0))),(getAt (0,0,0,0,0) x.2.1 (toN p.1)),p.2.1,p.2.2.1,s.1,s.2.1,s.2.2.1,s.2.2.2)).bind fun r11 =>
 let q:=r11.2.2;
 bif (Bool.not r11.1) then
 some (.inr (.inl (p.1,0)))
 else
 some (.inl (x.1,x.2.1,x.2.2.1,(IntKind.wrap .i64 (p.1+1)),r11.2.1,q.1,q.2.1,q.2.2.1,q.2.2.2.1,q.2.2.2.2))
 else
 none
 else
 none
 else
 some (.inr (.inr ()))
def Zga:Ctx:=mC [(92,[100],Zvq),(102,[],Zwp),(103,[],Zwe),(104,[],Spec.thin (Zw9))] [] 43 0
theorem Zbe:CSound Tryz.prog ⟨43,0,true⟩ (.loop (loopOf 7 Tryz.f61)) (pieceSpec Zj5 Zi4 (loop Zbd)) :=
 tL Zga 7 Tryz.f61 ⟨Z6u,Z8u,Z8s,Z7w.thin,trivial⟩
abbrev Zmy:Shape:=⟨sl_9,[],[y1,y36],0⟩
abbrev Zrk:Shape:=⟨sl_10,[],ts_8,0⟩
def Z7l (x:T36):Option (Int × Int) :=
 bif (decide ((((List.length x.1):Nat):Int) > 4)) then
 some (0,1)
 else
 (Z6t x.1).bind fun r7 =>
 bif r7 then
 some (0,1)
 else
 (Z8t ()).bind fun r8 =>
 (Z86 (x.1,(0 :: (0 :: (0 :: (0 :: (0 :: (0 :: (0 :: (0 :: ([]:List Int))))))))),0,([]:List T8),([]:List (Int × Int)),r8)).bind fun r9 =>
 (loop Zbd (x.2,x.2,(((List.length x.2):Nat):Int),0,r9.1,r9.2.1,r9.2.2.1,r9.2.2.2.1,r9.2.2.2.2.1,r9.2.2.2.2.2)).bind fun r10 =>
 match r10 with
 | .inl y11 =>
 some (y11.1,y11.2)
 | .inr y11 =>
 some ((Int.negSucc 0),0)
abbrev Zw4:=Spec.shp Zmy Zrk Z7l
def Zg8:Ctx:=mC [(92,[100],Zvq),(102,[],Zwp),(103,[],Zwe),(104,[],Spec.thin (Zw9))] [(0,7,pieceSpec Zj5 Zi4 (loop Zbd))] 43 0
theorem Z7o:Sound Tryz.prog 61 (Zw4) :=
 tS Zg8 Tryz.f61 ⟨Z6u,Z8u,Z8s,Z7w.thin,trivial⟩ ⟨(pL 7 Tryz.f61 Zbe),trivial⟩
abbrev Zi9:Shape:=⟨[(5,(.ptr 0 [])),(16,(.hole y36)),(17,(.hole (.int .i64))),(18,(.hole (.int .i64)))],bl_3,[y36,(.int .i64),(.int .i64),y1,y27,(.slice y6),(.slice y6),y15,(.slice y6)],0⟩
abbrev Zh8:List (ETag × Shape):=[(.exit 0,⟨[(5,(.ptr 0 []))],bl_3,ts_9,0⟩)]
def Z9l (x:(List (T20) × Int × Int × List Int × List (T21) × List (Int × Int) × List (Int × Int) × List T2 × List (Int × Int))):Option ((List (T20) × Int × Int × List Int × List (T21) × List (Int × Int) × List (Int × Int) × List T2 × List (Int × Int)) ⊕ (List Int × List (T21) × List (Int × Int) × List (Int × Int) × List T2 × List (Int × Int))) :=
 let w:=IntKind.wrap .i64;
 let s:=x.2.2;
 let u:=s.2.2;
 let q:=(u.2.1,u.2.2.1,u.2.2.2.1,u.2.2.2.2);
 let p:=(getAt ((0:Int),(0:Int),(0:Int),(0:Int),(0:Int)) x.1 (toN s.1));
 let v:=p.2.2;
 bif (decide (s.1 < x.2.1)) then
 bif (inb s.1 (List.length x.1)) then
 bif (p.2.1 == 3) then
 some (.inl (x.1,x.2.1,(w (s.1+(1:Int))),s.2.1,(@mput (Int × T0) (Int) (Ty.beq y9) (v.1,v.2.1,(p.2.1 == (5:Int))) (w (v.2.2+(1:Int))) u.1),q))
 else
 bif (p.2.1 == 5) then
 some (.inl (x.1,x.2.1,(w (s.1+(1:Int))),s.2.1,(@mput (Int × T0) (Int) (Ty.beq y9) (v.1,v.2.1,(p.2.1 == (5:Int))) (w (v.2.2+(1:Int))) u.1),q))
 else
 some (.inl (x.1,x.2.1,(w (s.1+1)),s.2.1,u.1,q))
 else
 none
 else
 some (.inr (s.2.1,u.1,q))
def Zc8:Ctx:=mC [] [] 47 0
theorem Z9m:CSound Tryz.prog ⟨47,0,true⟩ (.loop (loopOf 4 Tryz.f62)) (pieceSpec Zi9 Zh8 (loop Z9l)) :=
 tL Zc8 4 Tryz.f62 trivial
abbrev Zju:Shape:=⟨sl_9,[],[y1,y36],0⟩
abbrev Zog:Shape:=⟨sl_4,bl_3,ts_9,0⟩
def Z1c (x:T36):Option (List Int × List (T21) × List (Int × Int) × List (Int × Int) × List T2 × List (Int × Int)) :=
 (loop Z9l (x.2,(((List.length x.2):Nat):Int),0,x.1,([]:List T21),([]:List (Int × Int)),([]:List (Int × Int)),([]:List (Int × (List Int))),([]:List (Int × Int)))).bind fun r8 =>
 some (r8.1,r8.2.1,r8.2.2.1,r8.2.2.2.1,r8.2.2.2.2.1,r8.2.2.2.2.2)
abbrev Zt1:=Spec.shp Zju Zog Z1c
def Zc7:Ctx:=mC [] [(0,4,pieceSpec Zi9 Zh8 (loop Z9l))] 47 0
theorem Z1d:Sound Tryz.prog 62 (Zt1) :=
 tS Zc7 Tryz.f62 trivial ⟨(pL 4 Tryz.f62 Z9m),trivial⟩
abbrev Zjs:Shape:=⟨sl_8,bl_3,ts_10,0⟩
abbrev Zoe:Shape:=⟨[(0,(.fn 105 .nil (.cons (.ptr 6 []) (.cons (.ptr 7 []) (.cons (.ptr 8 []) .nil)))))],[.var (.pr (.hole y1) (.pr (.mp 1) (.pr (.mp 2) (.pr (.mp 3) (.pr (.mp 4) (.mp 5)))))),.mp y9 (.int .i64),.mp (.int .i64) (.int .i64),.mp (.int .i64) (.int .i64),.mo (.int .i64) (.int .i64),.mp (.int .i64) (.int .i64),.var (.ptr 0 []),.var (.hole y31),.var (.hole (.int .i64))],[y1,y27,(.slice y6),(.slice y6),y15,(.slice y6),y31,(.int .i64)],6⟩
def Z18 (x:(Int × T20 × List Int × List (T21) × List (Int × Int) × List (Int × Int) × List T2 × List (Int × Int))):Option (List Int × List (T21) × List (Int × Int) × List (Int × Int) × List T2 × List (Int × Int) × T20 × Int) :=
 let p:=x.2.2.2;
 some (x.2.2.1,p.1,p.2.1,p.2.2.1,p.2.2.2.1,p.2.2.2.2,x.2.1,x.1)
abbrev Zsz:=Spec.shp Zjs Zoe Z18
def Zc4:Ctx:=mC [] [] 8 6
theorem Z1b:Sound Tryz.prog 63 (Zsz) :=
 tS Zc4 Tryz.f63 trivial
abbrev Zjo:Shape:=⟨[(12,(.ptr 0 [])),(40,(.hole (.int .i64)))],bl_4,ts_11,0⟩
abbrev Zoa:Shape:=⟨sl_2,bl_4,ts_11,1⟩
def Z10 (x:T2):Option T2 :=
 bif (fits ((List.length x.2)+(List.length (x.1 :: ([]:List Int))))) then
 some (0,(x.2++(x.1 :: ([]:List Int))))
 else
 none
def Zc0:Ctx:=mC [] [] 58 1 false
theorem Z11:YSound Tryz.prog 983052 [12] (Spec.rnd [12,40] Zjo Zoa Z10) :=
 YSound.rnd (C:=Zc0) (rt:=⟨rfPs (rfOf 12 Tryz.f15),rfAs (rfOf 12 Tryz.f15),rfBody (rfOf 12 Tryz.f15),58⟩) (by kernel_rfl) (ctxOK mixed tbl_ok rfl trivial) (SumOK.of trivial) (SumOK.of trivial) rfl rfl [12] Zjo Zoa rfl (by decide) (by decide) rfl (fun y=>⟨_,rfl⟩) (of_decide_eq_true (by kernel_rfl)) (of_decide_eq_true (by kernel_rfl)) Z10 (fun x=>by kernel_rfl)
abbrev Zi8:Shape:=⟨[(0,(.yl 0)),(3,(.ptr 3 [])),(70,(.sl 11)),(71,(.hole (.int .i64))),(72,(.hole (.int .i64)))],[.lp 983052 [12] (.cons (.ptr 4 []) .nil),.var (.ptr 5 []),.var (.hole y31),.var (.hole (.int .i64)),.var (.sl 12),.var (.pr (.hole y1) (.pr (.mp 6) (.pr (.mp 7) (.pr (.mp 8) (.pr (.mp 9) (.mp 10)))))),.mp y9 (.int .i64),.mp (.int .i64) (.int .i64),.mp (.int .i64) (.int .i64),.mo (.int .i64) (.int .i64),.mp (.int .i64) (.int .i64),.row (.int .i64),.row (.int .i64)],[(.int .i64),(.int .i64),y31,(.int .i64),y1,y27,(.slice y6),(.slice y6),y15,(.slice y6),y1,y1],11⟩
abbrev Zh7:List (ETag × Shape):=[(.ret,⟨[],bl_5,ts_12,11⟩),(.exit 1,⟨[],bl_6,ts_13,11⟩)]
def Z9j (x:(Int × Int × T20 × Int × List Int × List (T21) × List (Int × Int) × List (Int × Int) × List T2 × List (Int × Int) × List Int × List Int)):Option ((Int × Int × T20 × Int × List Int × List (T21) × List (Int × Int) × List (Int × Int) × List T2 × List (Int × Int) × List Int × List Int) ⊕ ((Int × T20 × Int × List Int × List (T21) × List (Int × Int) × List (Int × Int) × List T2 × List (Int × Int) × List Int) ⊕ (T20 × Int × List Int × List (T21) × List (Int × Int) × List (Int × Int) × List T2 × List (Int × Int) × List Int))) :=
 let b:=IntKind.wrap .i64;
 let a:=x.2.2;
 let u:=(b (x.2.1+(1:Int)));
 let q:=a.2;
 let w:=q.2.2;
 let p:=w.2;
 let v:=p.2.2;
 let s:=v.2;
 bif (decide (x.2.1 < x.1)) then
 bif (inb x.2.1 (List.length s.2.1)) then
 bif (decide ((getAt 0 s.2.1 (toN x.2.1)) > 0)) then
 bif (decide ((getAt 0 s.2.1 (toN x.2.1)) <= q.1)) then
 (Z10 ((b ((getAt 0 s.2.1 (toN x.2.1)) - 1)),s.2.2)).bind fun r12 =>
 bif (eqI r12.1 0) then
 some (.inl (x.1,u,a.1,q.1,q.2.1,w.1,p.1,p.2.1,v.1,s.1,s.2.1,r12.2))
 else
 some (.inr (.inl (r12.1,a.1,q.1,q.2.1,w.1,p.1,p.2.1,v.1,s.1,r12.2)))
 else
 some (.inl (x.1,u,a.1,q.1,q.2.1,w.1,p.1,p.2.1,v.1,s.1,s.2.1,s.2.2))
 else
 some (.inl (x.1,u,a.1,q.1,q.2.1,w.1,p.1,p.2.1,v.1,s.1,s.2.1,s.2.2))
 else
 none
 else
 some (.inr (.inr (a.1,q.1,q.2.1,w.1,p.1,p.2.1,v.1,s.1,s.2.2)))
def Zc6:Ctx:=mC [] [] 91 11 true [(983052,[12],Spec.rnd [12,40] { sl:=[(12,(.ptr 0 [])),(40,(.hole (.int .i64)))],bl:=[.var (.sl 1),.row (.int .i64)],ts:=[(.int .i64),(.slice (.int .i64))],pin:=0 } { sl:=[(0,(.hole (.int .i64)))],bl:=[.var (.sl 1),.row (.int .i64)],ts:=[(.int .i64),(.slice (.int .i64))],pin:=1 } Z10)]
theorem Z9k:CSound Tryz.prog ⟨91,11,true⟩ (.loop (loopOf 15 Tryz.f105)) (pieceSpec Zi8 Zh7 (loop Z9j)) :=
 tL Zc6 15 Tryz.f105 trivial trivial ⟨Z11,trivial⟩
abbrev Zjq:Shape:=⟨[(0,(.ptr 0 [])),(1,(.hole y31))],bl_3,[y31,y1,y27,(.slice y6),(.slice y6),y15,(.slice y6)],0⟩
abbrev Zoc:Shape:=⟨sl_2,bl_3,[(.int .i64),y1,y27,(.slice y6),(.slice y6),y15,(.slice y6)],6⟩
def Z14 (x:(T20 × List Int × List (T21) × List (Int × Int) × List (Int × Int) × List T2 × List (Int × Int))):Option (Int × List Int × List (T21) × List (Int × Int) × List (Int × Int) × List T2 × List (Int × Int)) :=
 let p:=x.2.2;
 let q:=p.2.2;
 bif (x.1.2.1 == 5) then
 some ((@mlook (Int × T0) (Int) (Ty.beq y9) (Ty.zero (.int .i64)) (x.1.2.2.1,x.1.2.2.2.1,false) p.1),x.2.1,p.1,p.2.1,q.1,q.2.1,q.2.2)
 else
 bif (inb x.1.2.2.1 (List.length x.2.1)) then
 some ((@mlook (Int × T0) (Int) (Ty.beq y9) (Ty.zero (.int .i64)) (x.1.2.2.1,(IntKind.wrap .i64 (x.1.2.2.2.1 - (getAt (0:Int) x.2.1 (toN x.1.2.2.1)))),true) p.1),x.2.1,p.1,p.2.1,q.1,q.2.1,q.2.2)
 else
 none
abbrev Zsx:=Spec.shp Zjq Zoc Z14
def Zc2:Ctx:=mC [] [] 37 6
theorem Z15:Sound Tryz.prog 106 (Zsx) :=
 tS Zc2 Tryz.f106 trivial
abbrev Zjt:Shape:=⟨[(0,(.yl 0)),(1,(.ptr 1 [])),(2,(.ptr 2 [])),(3,(.ptr 3 []))],bl_6,ts_13,0⟩
abbrev Zof:Shape:=⟨[],bl_5,ts_12,11⟩
def Z19 (x:(T20 × Int × List Int × List (T21) × List (Int × Int) × List (Int × Int) × List T2 × List (Int × Int) × List Int)):Option (Int × T20 × Int × List Int × List (T21) × List (Int × Int) × List (Int × Int) × List T2 × List (Int × Int) × List Int) :=
 let a:=IntKind.wrap .i64;
 let v:=x.2.2;
 let q:=v.2.2;
 let u:=q.2.2;
 let w:=u.2.2;
 let s:=(@mlook (Int) (List Int) (Ty.beq (.int .i64)) [] x.1.2.2.1 u.1);
 let p:=((@mlook (Int) (Int) (Ty.beq (.int .i64)) (Ty.zero (.int .i64)) x.1.1 u.2.1) :: ([]:List Int));
 bif (x.1.2.1 == 0) then
 (loop Z9j ((((List.length (p++((a (x.1.2.2.2.2+1)) :: ([]:List Int)))):Nat):Int),0,x.1,x.2.1,v.1,v.2.1,q.1,q.2.1,u.1,u.2.1,(p++((a (x.1.2.2.2.2+1)) :: ([]:List Int))),w)).bind fun r11 =>
 match r11 with
 | .inl y12 =>
 some (y12.1,y12.2.1,y12.2.2.1,y12.2.2.2.1,y12.2.2.2.2.1,y12.2.2.2.2.2.1,y12.2.2.2.2.2.2.1,y12.2.2.2.2.2.2.2.1,y12.2.2.2.2.2.2.2.2.1,y12.2.2.2.2.2.2.2.2.2)
 | .inr y12 =>
 some (0,y12.1,y12.2.1,y12.2.2.1,y12.2.2.2.1,y12.2.2.2.2.1,y12.2.2.2.2.2.1,y12.2.2.2.2.2.2.1,y12.2.2.2.2.2.2.2.1,y12.2.2.2.2.2.2.2.2)
 else
 bif (x.1.2.1 == 5) then
 (Z14 (x.1,v.1,v.2.1,q.1,q.2.1,u.1,u.2.1)).bind fun r11 =>
 (loop Z9j ((((List.length (p++(r11.1 :: ([]:List Int)))):Nat):Int),0,x.1,x.2.1,r11.2.1,r11.2.2.1,r11.2.2.2.1,r11.2.2.2.2.1,r11.2.2.2.2.2.1,r11.2.2.2.2.2.2,(p++(r11.1 :: ([]:List Int))),w)).bind fun r12 =>
 match r12 with
 | .inl y13 =>
 some (y13.1,y13.2.1,y13.2.2.1,y13.2.2.2.1,y13.2.2.2.2.1,y13.2.2.2.2.2.1,y13.2.2.2.2.2.2.1,y13.2.2.2.2.2.2.2.1,y13.2.2.2.2.2.2.2.2.1,y13.2.2.2.2.2.2.2.2.2)
 | .inr y13 =>
 some (0,y13.1,y13.2.1,y13.2.2.1,y13.2.2.2.1,y13.2.2.2.2.1,y13.2.2.2.2.2.1,y13.2.2.2.2.2.2.1,y13.2.2.2.2.2.2.2.1,y13.2.2.2.2.2.2.2.2)
 else
 bif (x.1.2.1 == 3) then
 (Z14 (x.1,v.1,v.2.1,q.1,q.2.1,u.1,u.2.1)).bind fun r11 =>
 (loop Z9j ((((List.length (p++(r11.1 :: ([]:List Int)))):Nat):Int),0,x.1,x.2.1,r11.2.1,r11.2.2.1,r11.2.2.2.1,r11.2.2.2.2.1,r11.2.2.2.2.2.1,r11.2.2.2.2.2.2,(p++(r11.1 :: ([]:List Int))),w)).bind fun r12 =>
 match r12 with
 | .inl y13 =>
 some (y13.1,y13.2.1,y13.2.2.1,y13.2.2.2.1,y13.2.2.2.2.1,y13.2.2.2.2.2.1,y13.2.2.2.2.2.2.1,y13.2.2.2.2.2.2.2.1,y13.2.2.2.2.2.2.2.2.1,y13.2.2.2.2.2.2.2.2.2)
 | .inr y13 =>
 some (0,y13.1,y13.2.1,y13.2.2.1,y13.2.2.2.1,y13.2.2.2.2.1,y13.2.2.2.2.2.1,y13.2.2.2.2.2.2.1,y13.2.2.2.2.2.2.2.1,y13.2.2.2.2.2.2.2.2)
 else
 bif (x.1.2.1 == 6) then
 (loop Z9j ((((List.length (p++((@mlook (Int) (Int) (Ty.beq (.int .i64)) (Ty.zero (.int .i64)) x.1.2.2.1 q.1) :: ([]:List Int)))):Nat):Int),(0:Int),x.1,x.2.1,v.1,v.2.1,q.1,q.2.1,u.1,u.2.1,(p++((@mlook (Int) (Int) (Ty.beq (.int .i64)) (Ty.zero (.int .i64)) x.1.2.2.1 q.1) :: ([]:List Int))),w)).bind fun r11 =>
 match r11 with
 | .inl y12 =>
 some (y12.1,y12.2.1,y12.2.2.1,y12.2.2.2.1,y12.2.2.2.2.1,y12.2.2.2.2.2.1,y12.2.2.2.2.2.2.1,y12.2.2.2.2.2.2.2.1,y12.2.2.2.2.2.2.2.2.1,y12.2.2.2.2.2.2.2.2.2)
 | .inr y12 =>
 some (0,y12.1,y12.2.1,y12.2.2.1,y12.2.2.2.1,y12.2.2.2.2.1,y12.2.2.2.2.2.1,y12.2.2.2.2.2.2.1,y12.2.2.2.2.2.2.2.1,y12.2.2.2.2.2.2.2.2)
 else
 bif (x.1.2.1 == 11) then
 bif (@mhas (Int) (List Int) (Ty.beq (.int .i64)) x.1.2.2.1 u.1) then
 bif (fits ((List.length p)+(List.length s))) then
 (loop Z9j ((((List.length (p++s)):Nat):Int),(0:Int),x.1,x.2.1,v.1,v.2.1,q.1,q.2.1,(mset u.1 (@mpos (Int) (List Int) (Ty.beq (.int .i64)) x.1.2.2.1 u.1) s),u.2.1,(p++s),w)).bind fun r11 =>
 match r11 with
 | .inl y12 =>
 some (y12.1,y12.2.1,y12.2.2.1,y12.2.2.2.1,y12.2.2.2.2.1,y12.2.2.2.2.2.1,y12.2.2.2.2.2.2.1,y12.2.2.2.2.2.2.2.1,y12.2.2.2.2.2.2.2.2.1,y12.2.2.2.2.2.2.2.2.2)
 | .inr y12 =>
 some (0,y12.1,y12.2.1,y12.2.2.1,y12.2.2.2.1,y12.2.2.2.2.1,y12.2.2.2.2.2.1,y12.2.2.2.2.2.2.1,y12.2.2.2.2.2.2.2.1,y12.2.2.2.2.2.2.2.2)
 else
 none
 else
 (loop Z9j ((((List.length (p++([]:List Int))):Nat):Int),0,x.1,x.2.1,v.1,v.2.1,q.1,q.2.1,u.1,u.2.1,(p++([]:List Int)),w)).bind fun r11 =>
 match r11 with
 | .inl y12 =>
 some (y12.1,y12.2.1,y12.2.2.1,y12.2.2.2.1,y12.2.2.2.2.1,y12.2.2.2.2.2.1,y12.2.2.2.2.2.2.1,y12.2.2.2.2.2.2.2.1,y12.2.2.2.2.2.2.2.2.1,y12.2.2.2.2.2.2.2.2.2)
 | .inr y12 =>
 some (0,y12.1,y12.2.1,y12.2.2.1,y12.2.2.2.1,y12.2.2.2.2.1,y12.2.2.2.2.2.1,y12.2.2.2.2.2.2.1,y12.2.2.2.2.2.2.2.1,y12.2.2.2.2.2.2.2.2)
 else
 bif (x.1.2.1 == 15) then
 (loop Z9j ((((List.length (p++((@mlook (Int) (Int) (Ty.beq (.int .i64)) (Ty.zero (.int .i64)) x.1.2.2.1 q.2.1) :: ([]:List Int)))):Nat):Int),(0:Int),x.1,x.2.1,v.1,v.2.1,q.1,q.2.1,u.1,u.2.1,(p++((@mlook (Int) (Int) (Ty.beq (.int .i64)) (Ty.zero (.int .i64)) x.1.2.2.1 q.2.1) :: ([]:List Int))),w)).bind fun r11 =>
 match r11 with
 | .inl y12 =>
 some (y12.1,y12.2.1,y12.2.2.1,y12.2.2.2.1,y12.2.2.2.2.1,y12.2.2.2.2.2.1,y12.2.2.2.2.2.2.1,y12.2.2.2.2.2.2.2.1,y12.2.2.2.2.2.2.2.2.1,y12.2.2.2.2.2.2.2.2.2)
 | .inr y12 =>
 some (0,y12.1,y12.2.1,y12.2.2.1,y12.2.2.2.1,y12.2.2.2.2.1,y12.2.2.2.2.2.1,y12.2.2.2.2.2.2.1,y12.2.2.2.2.2.2.2.1,y12.2.2.2.2.2.2.2.2)
 else
 (loop Z9j ((((List.length p):Nat):Int),0,x.1,x.2.1,v.1,v.2.1,q.1,q.2.1,u.1,u.2.1,p,w)).bind fun r11 =>
 match r11 with
 | .inl y12 =>
 some (y12.1,y12.2.1,y12.2.2.1,y12.2.2.2.1,y12.2.2.2.2.1,y12.2.2.2.2.2.1,y12.2.2.2.2.2.2.1,y12.2.2.2.2.2.2.2.1,y12.2.2.2.2.2.2.2.2.1,y12.2.2.2.2.2.2.2.2.2)
 | .inr y12 =>
 some (0,y12.1,y12.2.1,y12.2.2.1,y12.2.2.2.1,y12.2.2.2.2.1,y12.2.2.2.2.2.1,y12.2.2.2.2.2.2.1,y12.2.2.2.2.2.2.2.1,y12.2.2.2.2.2.2.2.2)
abbrev Zt0:=Spec.shp Zjt Zof Z19
def Zc5:Ctx:=mC [(106,[],Zsx)] [(0,15,pieceSpec Zi8 Zh7 (loop Z9j))] 91 11 true [(983052,[12],Spec.rnd [12,40] Zjo Zoa Z10)]
theorem Z1a:Sound Tryz.prog 105 (Zt0) :=
 tS Zc5 Tryz.f105 ⟨Z15,trivial⟩ ⟨(pL 15 Tryz.f105 Z9k),trivial⟩ ⟨Z11,trivial⟩
abbrev Zjr:Shape:=⟨sl_8,bl_3,ts_10,0⟩
abbrev Zod:Shape:=⟨[],bl_3,ts_9,6⟩
def Z16 (x:(Int × T20 × List Int × List (T21) × List (Int × Int) × List (Int × Int) × List T2 × List (Int × Int))):Option (List Int × List (T21) × List (Int × Int) × List (Int × Int) × List T2 × List (Int × Int)) :=
 let v:=x.2.2;
 let s:=v.2.2;
 let u:=s.2.2;
 let q:=(IntKind.wrap .i64 (x.1+(1:Int)));
 let p:=(@mput (Int) (Int) (Ty.beq (.int .i64)) x.2.1.1 q u.2);
 bif (x.2.1.2.1 == 7) then
 some (v.1,v.2.1,(@mput (Int) (Int) (Ty.beq (.int .i64)) x.2.1.2.2.1 q s.1),s.2.1,u.1,p)
 else
 bif (x.2.1.2.1 == 14) then
 some (v.1,v.2.1,s.1,(@mput (Int) (Int) (Ty.beq (.int .i64)) x.2.1.2.2.1 q s.2.1),u.1,p)
 else
 bif (x.2.1.2.1 == 12) then
 bif (@mhas (Int) (List Int) (Ty.beq (.int .i64)) x.2.1.2.2.1 u.1) then
 bif (fits ((List.length (@mlook (Int) (List Int) (Ty.beq (.int .i64)) [] x.2.1.2.2.1 u.1))+(List.length (q :: ([]:List Int))))) then
 bif (Nat.beq (@mpos (Int) (List Int) (Ty.beq (.int .i64)) x.2.1.2.2.1 u.1) (@mpos (Int) (List Int) (Ty.beq (.int .i64)) x.2.1.2.2.1 u.1)) then
 some (v.1,v.2.1,s.1,s.2.1,(@mput (Int) (List Int) (Ty.beq (.int .i64)) x.2.1.2.2.1 ((@mlook (Int) (List Int) (Ty.beq (.int .i64)) [] x.2.1.2.2.1 u.1)++(q :: ([]:List Int))) u.1),p)
 else
 none
 else
 none
 else
 some (v.1,v.2.1,s.1,s.2.1,(@mput (Int) (List Int) (Ty.beq (.int .i64)) x.2.1.2.2.1 (q :: ([]:List Int)) u.1),p)
 else
 some (v.1,v.2.1,s.1,s.2.1,u.1,p)
abbrev Zsy:=Spec.shp Zjr Zod Z16
def Zc3:Ctx:=mC [] [] 55 6
theorem Z17:Sound Tryz.prog 66 (Zsy) :=
 tS Zc3 Tryz.f66 trivial
abbrev Zi7:Shape:=⟨[(8,(.ptr 0 [])),(9,(.sl 6)),(29,(.hole y36)),(30,(.hole (.int .i64))),(31,(.hole (.int .i64)))],[.var (.pr (.hole y1) (.pr (.mp 1) (.pr (.mp 2) (.pr (.mp 3) (.pr (.mp 4) (.mp 5)))))),.mp y9 (.int .i64),.mp (.int .i64) (.int .i64),.mp (.int .i64) (.int .i64),.mo (.int .i64) (.int .i64),.mp (.int .i64) (.int .i64),.row y1],[y36,(.int .i64),(.int .i64),y1,y27,(.slice y6),(.slice y6),y15,(.slice y6),(.slice y1)],0⟩
abbrev Zh6:List (ETag × Shape):=[(.ret,⟨[],[],[],0⟩),(.exit 0,⟨[(9,(.sl 0))],[.row y1],[(.slice y1)],0⟩)]
def Z9h (x:(List (T20) × Int × Int × List Int × List (T21) × List (Int × Int) × List (Int × Int) × List T2 × List (Int × Int) × List (List Int))):Option ((List (T20) × Int × Int × List Int × List (T21) × List (Int × Int) × List (Int × Int) × List T2 × List (Int × Int) × List (List Int)) ⊕ (Unit ⊕ (List (List Int)))) :=
 let s:=x.2.2;
 let u:=s.2.2.2.2;
 bif (decide (s.1 < x.2.1)) then
 bif (inb s.1 (List.length x.1)) then
 (Z18 (s.1,(getAt (0,0,0,0,0) x.1 (toN s.1)),s.2.1,s.2.2.1,s.2.2.2.1,u.1,u.2.1,u.2.2.1)).bind fun r9 =>
 let v:=r9.2.2.2;
 (Z19 (v.2.2.2.1,v.2.2.2.2,r9.1,r9.2.1,r9.2.2.1,v.1,v.2.1,v.2.2.1,([]:List Int))).bind fun r10 =>
 let q:=r10.2.2.2.2.2;
 let w:=q.2.2.2;
 let p:=(Yix w.2 (0:Nat) (List.length w.2));
 bif (eqI r10.1 0) then
 bif (fits (List.length w.2)) then
 bif (fits (List.length p)) then
 bif (fits ((List.length u.2.2.2)+(List.length ((Y4h p) :: ([]:List (List Int)))))) then
 (Z16 (s.1,(getAt (0,0,0,0,0) x.1 (toN s.1)),r10.2.2.2.1,r10.2.2.2.2.1,q.1,q.2.1,q.2.2.1,w.1)).bind fun r11 =>
 let a:=r11.2.2;
 some (.inl (x.1,x.2.1,(IntKind.wrap .i64 (s.1+1)),r11.1,r11.2.1,a.1,a.2.1,a.2.2.1,a.2.2.2,(u.2.2.2++((Y4h p) :: ([]:List (List Int))))))
 else
 none
 else
 none
 else
 none
 else
 bif (eqI r10.1 1) then
 some (.inr (.inl ()))
 else
 none
 else
 none
 else
 some (.inr (.inr u.2.2.2))
def Zbz:Ctx:=mC [(61,[],Zw4),(62,[],Zt1),(63,[],Zsz),(64,[2000000],Yiz),(65,[2000000],Y4k),(66,[],Zsy)] [(3,12,Yfa (rfF (rfOf 12 Tryz.f15)) 983052 [12] [] [(105,[1983052],Zt0)])] 58 0
theorem Z9i:CSound Tryz.prog ⟨58,0,true⟩ (.loop (loopOf 8 Tryz.f15)) (pieceSpec Zi7 Zh6 (loop Z9h)) :=
 tL Zbz 8 Tryz.f15 ⟨Z7o,Z1d,Z1b,Y7,Y6,Z17,trivial⟩ ⟨(pR 12 Tryz.f15 (Yfc (c:=rfOf 12 Tryz.f15) rfl (by kernel_rfl) Z1a [12] [])),trivial⟩
abbrev Zjn:Shape:=⟨sl_9,[],[y1,y36],0⟩
abbrev Zo9:Shape:=⟨[(0,(.hole (.slice y1))),(1,(.hole (.int .i64)))],[],[(.slice y1),(.int .i64)],0⟩
def Zy (x:T36):Option (List (List Int) × Int) :=
 (Z7l (x.1,x.2)).bind fun r6 =>
 bif (r6.2 != 0) then
 some (([]:List (List Int)),1)
 else
 bif (decide (r6.1 ≥ 0)) then
 some (([]:List (List Int)),1)
 else
 (Z1c (x.1,x.2)).bind fun r7 =>
 (loop Z9h (x.2,(((List.length x.2):Nat):Int),0,r7.1,r7.2.1,r7.2.2.1,r7.2.2.2.1,r7.2.2.2.2.1,r7.2.2.2.2.2,([]:List (List Int)))).bind fun r8 =>
 match r8 with
 | .inl y9 =>
 none
 | .inr y9 =>
 some (y9,0)
abbrev Zsv:=Spec.shp Zjn Zo9 Zy
def Zby:Ctx:=mC [(61,[],Zw4),(62,[],Zt1),(63,[],Zsz),(64,[2000000],Yiz),(65,[2000000],Y4k),(66,[],Zsy)] [(3,12,Yfa (rfF (rfOf 12 Tryz.f15)) 983052 [12] [] [(105,[1983052],Zt0)]),(0,8,pieceSpec Zi7 Zh6 (loop Z9h))] 58 0
theorem Zz:Sound Tryz.prog 15 (Zsv) :=
 tS Zby Tryz.f15 ⟨Z7o,Z1d,Z1b,Y7,Y6,Z17,trivial⟩ ⟨(pR 12 Tryz.f15 (Yfc (c:=rfOf 12 Tryz.f15) rfl (by kernel_rfl) Z1a [12] [])),(pL 8 Tryz.f15 Z9i),trivial⟩
abbrev Zmc:Shape:=⟨sl_11,[],[y1],0⟩
abbrev Zqy:Shape:=⟨[(0,(.sl 0))],bl_9,[y1],0⟩
def Z6d (x:(List Int)):Option (List Int) :=
 bif (Nat.beq (List.length x) (0:Nat)) then
 amb (
 some ([]:List Int)) (
 bif (fits ((List.length ([]:List Int))+(List.length x))) then
 some (([]:List Int)++x)
 else
 none)
 else
 bif (fits ((List.length ([]:List Int))+(List.length x))) then
 some (([]:List Int)++x)
 else
 none
abbrev Zvi:=Spec.shp Zmc Zqy Z6d
def Zfa:Ctx:=mC [] [] 8 0
theorem Z6e:Sound Tryz.prog 178 (Zvi) :=
 tS Zfa Tryz.f178 trivial
end
end Go.Proofs.YtifbgkikkiallaaGreat.VX.VxZ_Z
set_option maxRecDepth 100000
namespace Go.Proofs.YtifbgkikkiallaaGreat.VX.VxZ_Z
open Go.Proofs Go.Proofs.YtifbgkikkiallaaGreat.VX.T2
noncomputable section
abbrev Zlg:Shape:=⟨sl_0,[],ts_0,0⟩
abbrev Zq2:Shape:=⟨sl_1,[],ts_1,0⟩
def Z4l (x:T4):Option (Bool) :=
 bif (decide (x.1 ≥ x.2.1)) then
 some (decide (x.1 <= x.2.2))
 else
 some false
abbrev Zun:=Spec.shp Zlg Zq2 Z4l
def Zeb:Ctx:=mC [] [] 15 0
theorem Z4m:Sound Tryz.prog 245 (Zun) :=
 tS Zeb Tryz.f245 trivial
abbrev Zlp:Shape:=⟨sl_2,[],ts_2,0⟩
abbrev Zqb:Shape:=⟨sl_1,[],ts_1,0⟩
def Z52 (x:(Int)):Option (Bool) :=
 (Z4l (x,(Int.negSucc 0),3)).bind fun r14 =>
 some (Bool.not r14)
abbrev Zuw:=Spec.shp Zlp Zqb Z52
def Zek:Ctx:=mC [(245,[],Zun)] [] 6 0
theorem Z53:Sound Tryz.prog 246 (Zuw) :=
 tS Zek Tryz.f246 ⟨Z4m,trivial⟩
abbrev Zj2:Shape:=⟨[(0,(.hole y1)),(1,(.fn 246 .nil .nil)),(7,(.hole (.int .i64))),(8,(.hole (.int .i64)))],[],ts_3,0⟩
abbrev Zi1:List (ETag × Shape):=[(.ret,⟨sl_3,[],ts_2,0⟩),(.exit 0,⟨[],[],[],0⟩)]
def Zb7 (x:T10):Option (T10 ⊕ ((Int) ⊕ Unit)) :=
 bif (decide (x.2.2 < x.2.1)) then
 bif (inb x.2.2 (List.length x.1)) then
 (Z52 (getAt 0 x.1 (toN x.2.2))).bind fun r13 =>
 bif r13 then
 some (.inr (.inl x.2.2))
 else
 some (.inl (x.1,x.2.1,(IntKind.wrap .i64 (x.2.2+1))))
 else
 none
 else
 some (.inr (.inr ()))
def Zg3:Ctx:=mC [(246,[],Zuw)] [] 19 0
theorem Zb8:CSound Tryz.prog ⟨19,0,true⟩ (.loop (loopOf 3 Tryz.f126)) (pieceSpec Zj2 Zi1 (loop Zb7)) :=
 tL Zg3 3 Tryz.f126 ⟨Z53,trivial⟩
abbrev Zmv:Shape:=⟨[(0,(.hole y1)),(1,(.fn 246 .nil .nil))],[],[y1],0⟩
abbrev Zrh:Shape:=⟨sl_2,[],ts_2,0⟩
def Z7f (x:(List Int)):Option (Int) :=
 (loop Zb7 (x,(((List.length x):Nat):Int),0)).bind fun r12 =>
 match r12 with
 | .inl y13 =>
 some y13
 | .inr y13 =>
 some (Int.negSucc 0)
abbrev Zw1:=Spec.shp Zmv Zrh Z7f
def Zg2:Ctx:=mC [(246,[],Zuw)] [(0,3,pieceSpec Zj2 Zi1 (loop Zb7))] 19 0
theorem Z7g:Sound Tryz.prog 126 (Zw1) :=
 tS Zg2 Tryz.f126 ⟨Z53,trivial⟩ ⟨(pL 3 Tryz.f126 Zb8),trivial⟩
abbrev Zmj:Shape:=⟨[(0,(.hole y1)),(1,(.fn 246 .nil .nil))],[],[y1],0⟩
abbrev Zr5:Shape:=⟨sl_1,[],ts_1,0⟩
def Z6r (x:(List Int)):Option (Bool) :=
 (Z7f x).bind fun r11 =>
 some (decide (r11 ≥ 0))
abbrev Zvp:=Spec.shp Zmj Zr5 Z6r
def Zfh:Ctx:=mC [(126,[246],Zw1)] [] 9 0
theorem Z6s:Sound Tryz.prog 92 (Zvp) :=
 tS Zfh Tryz.f92 ⟨Z7g,trivial⟩
abbrev Zlq:Shape:=⟨[(0,(.hole y5)),(1,(.ptr 0 []))],bl_13,[y5,y49],0⟩
abbrev Zqc:Shape:=⟨sl_1,bl_13,[.bool,y49],1⟩
def Z54 (x:(T1 × T54)):Option (Bool × T54) :=
 (Z4l (x.1.2,0,(IntKind.wrap .i64 ((((List.length x.2.1):Nat):Int) - 1)))).bind fun r16 =>
 some ((Bool.not r16),x.2)
abbrev Zux:=Spec.shp Zlq Zqc Z54
def Zel:Ctx:=mC [(245,[],Zun)] [] 12 1
theorem Z55:Sound Tryz.prog 248 (Zux) :=
 tS Zel Tryz.f248 ⟨Z4m,trivial⟩
abbrev Ziu:Shape:=⟨[(0,(.hole (.slice y5))),(1,(.fn 248 .nil (.cons (.ptr 0 []) .nil))),(7,(.hole (.int .i64))),(8,(.hole (.int .i64)))],bl_13,[(.slice y5),(.int .i64),(.int .i64),y49],1⟩
abbrev Zht:List (ETag × Shape):=[(.ret,⟨sl_3,bl_13,[(.int .i64),y49],1⟩),(.exit 0,⟨[],bl_13,[y49],1⟩)]
def Zar (x:(List T1 × Int × Int × T54)):Option ((List T1 × Int × Int × T54) ⊕ ((Int × T54) ⊕ (T54))) :=
 let p:=x.2.2;
 bif (decide (p.1 < x.2.1)) then
 bif (inb p.1 (List.length x.1)) then
 (Z54 ((getAt (false,0) x.1 (toN p.1)),p.2)).bind fun r15 =>
 bif r15.1 then
 some (.inr (.inl (p.1,r15.2)))
 else
 some (.inl (x.1,x.2.1,(IntKind.wrap .i64 (p.1+1)),r15.2))
 else
 none
 else
 some (.inr (.inr p.2))
def Zfn:Ctx:=mC [(248,[],Zux)] [] 19 1
theorem Zas:CSound Tryz.prog ⟨19,1,true⟩ (.loop (loopOf 3 Tryz.f271)) (pieceSpec Ziu Zht (loop Zar)) :=
 tL Zfn 3 Tryz.f271 ⟨Z55,trivial⟩
abbrev Zmn:Shape:=⟨sl_26,bl_13,[(.slice y5),y49],0⟩
abbrev Zr9:Shape:=⟨sl_2,bl_13,[(.int .i64),y49],1⟩
def Z6z (x:(List T1 × T54)):Option (Int × T54) :=
 (loop Zar (x.1,(((List.length x.1):Nat):Int),0,x.2)).bind fun r14 =>
 match r14 with
 | .inl y15 =>
 some (y15.1,y15.2)
 | .inr y15 =>
 some ((Int.negSucc 0),y15)
abbrev Zvt:=Spec.shp Zmn Zr9 Z6z
def Zfm:Ctx:=mC [(248,[],Zux)] [(0,3,pieceSpec Ziu Zht (loop Zar))] 19 1
theorem Z70:Sound Tryz.prog 271 (Zvt) :=
 tS Zfm Tryz.f271 ⟨Z55,trivial⟩ ⟨(pL 3 Tryz.f271 Zas),trivial⟩
abbrev Zmd:Shape:=⟨sl_26,bl_13,[(.slice y5),y49],0⟩
abbrev Zqz:Shape:=⟨sl_1,bl_13,[.bool,y49],1⟩
def Z6f (x:(List T1 × T54)):Option (Bool × T54) :=
 (Z6z (x.1,x.2)).bind fun r13 =>
 some ((decide (r13.1 ≥ 0)),r13.2)
abbrev Zvj:=Spec.shp Zmd Zqz Z6f
def Zfb:Ctx:=mC [(271,[248],Zvt)] [] 9 1
theorem Z6g:Sound Tryz.prog 247 (Zvj) :=
 tS Zfb Tryz.f247 ⟨Z70,trivial⟩
abbrev Ziq:Shape:=⟨[(1,(.ptr 0 [])),(45,(.hole y17)),(46,(.hole (.int .i64))),(47,(.hole (.int .i64)))],bl_13,[y17,(.int .i64),(.int .i64),y49],0⟩
abbrev Zhp:List (ETag × Shape):=[(.ret,⟨[(2,(.hole (.int .i64))),(3,(.hole (.int .i64)))],[],ts_8,0⟩),(.exit 0,⟨[],[],[],0⟩)]
def Zaj (x:(List (T16) × Int × Int × T54)):Option ((List (T16) × Int × Int × T54) ⊕ ((Int × Int) ⊕ Unit)) :=
 let p:=x.2.2;
 bif (decide (p.1 < x.2.1)) then
 bif (inb p.1 (List.length x.1)) then
 bif (decide ((((List.length (getAt (([]:List T1),false) x.1 (toN p.1)).1):Nat):Int) > 4)) then
 some (.inr (.inl (p.1,2)))
 else
 (Z6f ((getAt (([]:List T1),false) x.1 (toN p.1)).1,p.2)).bind fun r12 =>
 bif r12.1 then
 some (.inr (.inl (p.1,3)))
 else
 some (.inl (x.1,x.2.1,(IntKind.wrap .i64 (p.1+1)),r12.2))
 else
 none
 else
 some (.inr (.inr ()))
def Zem:Ctx:=mC [(245,[],Zun),(92,[246],Zvp),(247,[248],Zvj)] [] 65 0
theorem Zak:CSound Tryz.prog ⟨65,0,true⟩ (.loop (loopOf 8 Tryz.f190)) (pieceSpec Ziq Zhp (loop Zaj)) :=
 tL Zem 8 Tryz.f190 ⟨Z4m,Z6s,Z6g,trivial⟩
abbrev Zlo:Shape:=⟨[(0,(.hole y49))],[],[y49],0⟩
abbrev Zqa:Shape:=⟨sl_10,[],ts_8,0⟩
def Z51 (x:(T54)):Option (Int × Int) :=
 let q:=x.2.2.2;
 let p:=((Int.negSucc 0),(2:Int));
 bif (decide ((((List.length x.1):Nat):Int) <= 4)) then
 (Z4l (x.2.1,0,2)).bind fun r6 =>
 bif r6 then
 (Z4l (x.2.2.1,0,2)).bind fun r7 =>
 bif r7 then
 (Z4l (q.1,0,4)).bind fun r8 =>
 bif (Bool.not r8) then
 some p
 else
 bif (decide ((((List.length q.2.1):Nat):Int) > 4)) then
 some p
 else
 (Z4l ((((List.length q.2.2):Nat):Int),1,6)).bind fun r9 =>
 bif (Bool.not r9) then
 some p
 else
 (Z6r x.1).bind fun r10 =>
 bif r10 then
 some ((Int.negSucc 0),3)
 else
 (loop Zaj (q.2.1,(((List.length q.2.1):Nat):Int),0,x)).bind fun r11 =>
 match r11 with
 | .inl y12 =>
 some (y12.1,y12.2)
 | .inr y12 =>
 some ((Int.negSucc 0),0)
 else
 some p
 else
 some p
 else
 some p
abbrev Zuv:=Spec.shp Zlo Zqa Z51
def Zej:Ctx:=mC [(245,[],Zun),(92,[246],Zvp),(247,[248],Zvj)] [(0,8,pieceSpec Ziq Zhp (loop Zaj))] 65 0
theorem Z56:Sound Tryz.prog 190 (Zuv) :=
 tS Zej Tryz.f190 ⟨Z4m,Z6s,Z6g,trivial⟩ ⟨(pL 8 Tryz.f190 Zak),trivial⟩
abbrev Zll:Shape:=⟨[],[],[],0⟩
abbrev Zq7:Shape:=⟨[(0,(.pr (.one (.fn 272 .nil .nil)) (.pr (.one (.fn 273 .nil .nil)) (.pr (.one (.fn 273 .nil .nil)) (.pr (.one (.fn 273 .nil .nil)) (.pr (.one (.fn 274 .nil .nil)) (.pr (.one (.fn 275 .nil .nil)) (.pr (.one (.fn 275 .nil .nil)) (.pr (.one (.fn 276 .nil .nil)) (.pr (.one (.fn 276 .nil .nil)) (.pr (.one (.fn 277 .nil .nil)) (.pr (.one (.fn 278 .nil .nil)) (.pr (.one (.fn 278 .nil .nil)) (.pr (.one (.fn 279 .nil .nil)) (.one (.fn 279 .nil .nil))))))))))))))))],[],[],0⟩
def Z4v (x:Unit):Option Unit :=
 some ()
abbrev Zus:=Spec.shp Zll Zq7 Z4v
def Zeg:Ctx:=mC [] [] 16 0
theorem Z4w:Sound Tryz.prog 249 (Zus) :=
 tS Zeg Tryz.f249 trivial
abbrev Zlj:Shape:=⟨sl_27,[],ts_23,0⟩
abbrev Zq5:Shape:=⟨sl_2,[],ts_2,0⟩
def Z4r (x:T56):Option (Int) :=
 some 1
abbrev Zuq:=Spec.shp Zlj Zq5 Z4r
def Zee:Ctx:=mC [] [] 5 0
theorem Z4s:Sound Tryz.prog 272 (Zuq) :=
 tS Zee Tryz.f272 trivial
abbrev Zlf:Shape:=⟨sl_27,[],ts_23,0⟩
abbrev Zq1:Shape:=⟨sl_2,[],ts_2,0⟩
def Z4j (x:T56):Option (Int) :=
 some (((List.length x.1.1):Nat):Int)
abbrev Zum:=Spec.shp Zlf Zq1 Z4j
def Zea:Ctx:=mC [] [] 8 0
theorem Z4k:Sound Tryz.prog 273 (Zum) :=
 tS Zea Tryz.f273 trivial
abbrev Zln:Shape:=⟨sl_27,[],ts_23,0⟩
abbrev Zq9:Shape:=⟨sl_2,[],ts_2,0⟩
def Z4z (x:T56):Option (Int) :=
 some (((List.length x.1.2.2.2.2.1):Nat):Int)
abbrev Zuu:=Spec.shp Zln Zq9 Z4z
def Zei:Ctx:=mC [] [] 8 0
theorem Z50:Sound Tryz.prog 274 (Zuu) :=
 tS Zei Tryz.f274 trivial
abbrev Zli:Shape:=⟨sl_27,[],ts_23,0⟩
abbrev Zq4:Shape:=⟨sl_2,[],ts_2,0⟩
def Z4p (x:T56):Option (Int) :=
 some x.1.2.1
abbrev Zup:=Spec.shp Zli Zq4 Z4p
def Zed:Ctx:=mC [] [] 7 0
theorem Z4q:Sound Tryz.prog 275 (Zup) :=
 tS Zed Tryz.f275 trivial
abbrev Zlk:Shape:=⟨sl_27,[],ts_23,0⟩
abbrev Zq6:Shape:=⟨sl_2,[],ts_2,0⟩
def Z4t (x:T56):Option (Int) :=
 some x.1.2.2.1
abbrev Zur:=Spec.shp Zlk Zq6 Z4t
def Zef:Ctx:=mC [] [] 7 0
theorem Z4u:Sound Tryz.prog 276 (Zur) :=
 tS Zef Tryz.f276 trivial
abbrev Zle:Shape:=⟨sl_27,[],ts_23,0⟩
abbrev Zq0:Shape:=⟨sl_2,[],ts_2,0⟩
def Z4h (x:T56):Option (Int) :=
 some (((List.length x.1.2.2.2.2.2):Nat):Int)
abbrev Zul:=Spec.shp Zle Zq0 Z4h
def Ze9:Ctx:=mC [] [] 8 0
theorem Z4i:Sound Tryz.prog 277 (Zul) :=
 tS Ze9 Tryz.f277 trivial
abbrev Zlr:Shape:=⟨sl_27,[],ts_23,0⟩
abbrev Zqd:Shape:=⟨sl_2,[],ts_2,0⟩
def Z57 (x:T56):Option (Int) :=
 some x.1.2.2.2.1
abbrev Zuy:=Spec.shp Zlr Zqd Z57
def Zen:Ctx:=mC [] [] 7 0
theorem Z58:Sound Tryz.prog 278 (Zuy) :=
 tS Zen Tryz.f278 trivial
abbrev Zlm:Shape:=⟨sl_27,[],ts_23,0⟩
abbrev Zq8:Shape:=⟨sl_2,[],ts_2,0⟩
def Z4x (x:T56):Option (Int) :=
 some (IntKind.wrap .i64 ((((List.length x.2):Nat):Int)+1))
abbrev Zut:=Spec.shp Zlm Zq8 Z4x
def Zeh:Ctx:=mC [] [] 8 0
theorem Z4y:Sound Tryz.prog 279 (Zut) :=
 tS Zeh Tryz.f279 trivial
abbrev Zlh:Shape:=⟨[(0,(.hole y49)),(1,(.hole (.slice y7))),(2,(.hole y7))],[],[y49,(.slice y7),y7],0⟩
abbrev Zq3:Shape:=⟨sl_2,[],ts_2,0⟩
def Z4n (x:(T54 × List (T7) × T7)):Option (Int) :=
 let f:=Bool.not;
 let e:=IntKind.wrap .i64;
 let c:=(((0:Nat)+(1:Nat))+(1:Nat));
 let w:=x.2.2;
 let v:=(c+(1:Nat));
 let d:=((v+(1:Nat))+(1:Nat));
 let s:=(w.2.2,(0:Int),(0:Int));
 let q:=(w.2.2,(0:Int),(((List.length x.2.1):Nat):Int));
 let p:=(d+(1:Nat));
 let a:=((p+(1:Nat))+(1:Nat));
 let u:=((a+(1:Nat))+(1:Nat));
 let b:=((u+(1:Nat))+(1:Nat));
 (Z4l (w.1,0,13)).bind fun r9 =>
 bif (f r9) then
 some 11
 else
 bif (w.1 == 7) then
 (Z4v ()).bind fun r10 =>
 bif (w.1 == (((0:Nat):Nat):Int)) then
 (Z4r (x.1,x.2.1)).bind fun r11 =>
 (Z4l (w.2.1,0,(e (r11 - 1)))).bind fun r12 =>
 bif (f r12) then
 some 3
 else
 (Z4l q).bind fun r13 =>
 bif (f r13) then
 some 3
 else
 some 0
 else
 bif (w.1 == ((((0:Nat)+(1:Nat)):Nat):Int)) then
 (Z4j (x.1,x.2.1)).bind fun r11 =>
 (Z4l (w.2.1,0,(e (r11 - 1)))).bind fun r12 =>
 bif (f r12) then
 some 3
 else
 (Z4l q).bind fun r13 =>
 bif (f r13) then
 some 3
 else
 some 0
 else
 bif (w.1 == ((c:Nat):Int)) then
 (Z4j (x.1,x.2.1)).bind fun r11 =>
 (Z4l (w.2.1,0,(e (r11 - 1)))).bind fun r12 =>
 bif (f r12) then
 some 3
 else
 (Z4l q).bind fun r13 =>
 bif (f r13) then
 some 3
 else
 some 0
 else
 bif (w.1 == ((v:Nat):Int)) then
 (Z4j (x.1,x.2.1)).bind fun r11 =>
 (Z4l (w.2.1,0,(e (r11 - 1)))).bind fun r12 =>
 bif (f r12) then
 some 3
 else
 (Z4l q).bind fun r13 =>
 bif (f r13) then
 some 3
 else
 some 0
 else
 bif (w.1 == (((v+(1:Nat)):Nat):Int)) then
 (Z4z (x.1,x.2.1)).bind fun r11 =>
 (Z4l (w.2.1,0,(e (r11 - 1)))).bind fun r12 =>
 bif (f r12) then
 some 3
 else
 (Z4l q).bind fun r13 =>
 bif (f r13) then
 some 3
 else
 some 0
 else
 bif (w.1 == ((d:Nat):Int)) then
 (Z4p (x.1,x.2.1)).bind fun r11 =>
 (Z4l (w.2.1,0,(e (r11 - 1)))).bind fun r12 =>
 bif (f r12) then
 some 3
 else
 (Z4l q).bind fun r13 =>
 bif (f r13) then
 some 3
 else
 some 0
 else
 bif (w.1 == ((p:Nat):Int)) then
 (Z4p (x.1,x.2.1)).bind fun r11 =>
 (Z4l (w.2.1,0,(e (r11 - 1)))).bind fun r12 =>
 bif (f r12) then
 some 3
 else
 (Z4l q).bind fun r13 =>
 bif (f r13) then
 some 3
 else
 some 0
 else
 bif (w.1 == (((p+(1:Nat)):Nat):Int)) then
 (Z4t (x.1,x.2.1)).bind fun r11 =>
 (Z4l (w.2.1,0,(e (r11 - 1)))).bind fun r12 =>
 bif (f r12) then
 some 3
 else
 (Z4l q).bind fun r13 =>
 bif (f r13) then
 some 3
 else
 some 0
 else
 bif (w.1 == ((a:Nat):Int)) then
 (Z4t (x.1,x.2.1)).bind fun r11 =>
 (Z4l (w.2.1,0,(e (r11 - 1)))).bind fun r12 =>
 bif (f r12) then
 some 3
 else
 (Z4l q).bind fun r13 =>
 bif (f r13) then
 some 3
 else
 some 0
 else
 bif (w.1 == (((a+(1:Nat)):Nat):Int)) then
 (Z4h (x.1,x.2.1)).bind fun r11 =>
 (Z4l (w.2.1,0,(e (r11 - 1)))).bind fun r12 =>
 bif (f r12) then
 some 3
 else
 (Z4l q).bind fun r13 =>
 bif (f r13) then
 some 3
 else
 some 0
 else
 bif (w.1 == ((u:Nat):Int)) then
 (Z57 (x.1,x.2.1)).bind fun r11 =>
 (Z4l (w.2.1,0,(e (r11 - 1)))).bind fun r12 =>
 bif (f r12) then
 some 3
 else
 (Z4l q).bind fun r13 =>
 bif (f r13) then
 some 3
 else
 some 0
 else
 bif (w.1 == (((u+(1:Nat)):Nat):Int)) then
 (Z57 (x.1,x.2.1)).bind fun r11 =>
 (Z4l (w.2.1,0,(e (r11 - 1)))).bind fun r12 =>
 bif (f r12) then
 some 3
 else
 (Z4l q).bind fun r13 =>
 bif (f r13) then
 some 3
 else
 some 0
 else
 bif (w.1 == ((b:Nat):Int)) then
 (Z4x (x.1,x.2.1)).bind fun r11 =>
 (Z4l (w.2.1,0,(e (r11 - 1)))).bind fun r12 =>
 bif (f r12) then
 some 3
 else
 (Z4l q).bind fun r13 =>
 bif (f r13) then
 some 3
 else
 some 0
 else
 bif (w.1 == (((b+(1:Nat)):Nat):Int)) then
 (Z4x (x.1,x.2.1)).bind fun r11 =>
 (Z4l (w.2.1,0,(e (r11 - 1)))).bind fun r12 =>
 bif (f r12) then
 some 3
 else
 (Z4l q).bind fun r13 =>
 bif (f r13) then
 some 3
 else
 some 0
 else
 none
 else
 (Z4v ()).bind fun r10 =>
 bif (w.1 == (((0:Nat):Nat):Int)) then
 (Z4r (x.1,x.2.1)).bind fun r11 =>
 (Z4l (w.2.1,0,(e (r11 - 1)))).bind fun r12 =>
 bif (f r12) then
 some 3
 else
 (Z4l s).bind fun r13 =>
 bif (f r13) then
 some 3
 else
 some 0
 else
 bif (w.1 == ((((0:Nat)+(1:Nat)):Nat):Int)) then
 (Z4j (x.1,x.2.1)).bind fun r11 =>
 (Z4l (w.2.1,0,(e (r11 - 1)))).bind fun r12 =>
 bif (f r12) then
 some 3
 else
 (Z4l s).bind fun r13 =>
 bif (f r13) then
 some 3
 else
 some 0
 else
 bif (w.1 == ((c:Nat):Int)) then
 (Z4j (x.1,x.2.1)).bind fun r11 =>
 (Z4l (w.2.1,0,(e (r11 - 1)))).bind fun r12 =>
 bif (f r12) then
 some 3
 else
 (Z4l s).bind fun r13 =>
 bif (f r13) then
 some 3
 else
 some 0
 else
 bif (w.1 == ((v:Nat):Int)) then
 (Z4j (x.1,x.2.1)).bind fun r11 =>
 (Z4l (w.2.1,0,(e (r11 - 1)))).bind fun r12 =>
 bif (f r12) then
 some 3
 else
 (Z4l s).bind fun r13 =>
 bif (f r13) then
 some 3
 else
 some 0
 else
 bif (w.1 == (((v+(1:Nat)):Nat):Int)) then
 (Z4z (x.1,x.2.1)).bind fun r11 =>
 (Z4l (w.2.1,0,(e (r11 - 1)))).bind fun r12 =>
 bif (f r12) then
 some 3
 else
 (Z4l s).bind fun r13 =>
 bif (f r13) then
 some 3
 else
 some 0
 else
 bif (w.1 == ((d:Nat):Int)) then
 (Z4p (x.1,x.2.1)).bind fun r11 =>
 (Z4l (w.2.1,0,(e (r11 - 1)))).bind fun r12 =>
 bif (f r12) then
 some 3
 else
 (Z4l s).bind fun r13 =>
 bif (f r13) then
 some 3
 else
 some 0
 else
 bif (w.1 == ((p:Nat):Int)) then
 (Z4p (x.1,x.2.1)).bind fun r11 =>
 (Z4l (w.2.1,0,(e (r11 - 1)))).bind fun r12 =>
 bif (f r12) then
 some 3
 else
 (Z4l s).bind fun r13 =>
 bif (f r13) then
 some 3
 else
 some 0
 else
 bif (w.1 == (((p+(1:Nat)):Nat):Int)) then
 (Z4t (x.1,x.2.1)).bind fun r11 =>
 (Z4l (w.2.1,0,(e (r11 - 1)))).bind fun r12 =>
 bif (f r12) then
 some 3
 else
 (Z4l s).bind fun r13 =>
 bif (f r13) then
 some 3
 else
 some 0
 else
 bif (w.1 == ((a:Nat):Int)) then
 (Z4t (x.1,x.2.1)).bind fun r11 =>
 (Z4l (w.2.1,0,(e (r11 - 1)))).bind fun r12 =>
 bif (f r12) then
 some 3
 else
 (Z4l s).bind fun r13 =>
 bif (f r13) then
 some 3
 else
 some 0
 else
 bif (w.1 == (((a+(1:Nat)):Nat):Int)) then
 (Z4h (x.1,x.2.1)).bind fun r11 =>
 (Z4l (w.2.1,0,(e (r11 - 1)))).bind fun r12 =>
 bif (f r12) then
 some 3
 else
 (Z4l s).bind fun r13 =>
 bif (f r13) then
 some 3
 else
 some 0
 else
 bif (w.1 == ((u:Nat):Int)) then
 (Z57 (x.1,x.2.1)).bind fun r11 =>
 (Z4l (w.2.1,0,(e (r11 - 1)))).bind fun r12 =>
 bif (f r12) then
 some 3
 else
 (Z4l s).bind fun r13 =>
 bif (f r13) then
 some 3
 else
 some 0
 else
 bif (w.1 == (((u+(1:Nat)):Nat):Int)) then
 (Z57 (x.1,x.2.1)).bind fun r11 =>
 (Z4l (w.2.1,0,(e (r11 - 1)))).bind fun r12 =>
 bif (f r12) then
 some 3
 else
 (Z4l s).bind fun r13 =>
 bif (f r13) then
 some 3
 else
 some 0
 else
 bif (w.1 == ((b:Nat):Int)) then
 (Z4x (x.1,x.2.1)).bind fun r11 =>
 (Z4l (w.2.1,0,(e (r11 - 1)))).bind fun r12 =>
 bif (f r12) then
 some 3
 else
 (Z4l s).bind fun r13 =>
 bif (f r13) then
 some 3
 else
 some 0
 else
 bif (w.1 == (((b+(1:Nat)):Nat):Int)) then
 (Z4x (x.1,x.2.1)).bind fun r11 =>
 (Z4l (w.2.1,0,(e (r11 - 1)))).bind fun r12 =>
 bif (f r12) then
 some 3
 else
 (Z4l s).bind fun r13 =>
 bif (f r13) then
 some 3
 else
 some 0
 else
 none
abbrev Zuo:=Spec.shp Zlh Zq3 Z4n
def Zec:Ctx:=mC [(245,[],Zun),(249,[],Zus),(272,[],Zuq),(273,[],Zum),(274,[],Zuu),(275,[],Zup),(276,[],Zur),(277,[],Zul),(278,[],Zuy),(279,[],Zut)] [] 37 0
theorem Z4o:Sound Tryz.prog 191 (Zuo) :=
 tS Zec Tryz.f191 ⟨Z4m,Z4w,Z4s,Z4k,Z50,Z4q,Z4u,Z4i,Z58,Z4y,trivial⟩
abbrev Zio:Shape:=⟨[(1,(.ptr 0 [])),(7,(.hole (.int .i64))),(8,(.hole (.slice y7))),(22,(.hole y18)),(23,(.hole (.int .i64))),(24,(.hole (.int .i64))),(33,(.hole (.slice y7))),(34,(.hole (.int .i64))),(35,(.hole (.int .i64)))],bl_13,[(.int .i64),(.slice y7),y18,(.int .i64),(.int .i64),(.slice y7),(.int .i64),(.int .i64),y49],0⟩
abbrev Zhn:List (ETag × Shape):=[(.ret,⟨sl_28,[],ts_0,0⟩),(.exit 2,⟨sl_29,bl_13,[y18,(.int .i64),(.int .i64),y49],0⟩)]
def Zaf (x:(Int × List (T7) × List (List (T7)) × Int × Int × List (T7) × Int × Int × T54)):Option ((Int × List (T7) × List (List (T7)) × Int × Int × List (T7) × Int × Int × T54) ⊕ (T4 ⊕ (List (List (T7)) × Int × Int × T54))) :=
 let s:=x.2.2;
 let p:=s.2.2.2;
 let q:=p.2.2;
 bif (decide (q.1 < p.2.1)) then
 bif (inb q.1 (List.length p.1)) then
 (Z4n (q.2,x.2.1,(getAt (0,0,0) p.1 (toN q.1)))).bind fun r8 =>
 bif (r8 != 0) then
 some (.inr (.inl (x.1,q.1,r8)))
 else
 some (.inl (x.1,x.2.1,s.1,s.2.1,s.2.2.1,p.1,p.2.1,(IntKind.wrap .i64 (q.1+1)),q.2))
 else
 none
 else
 some (.inr (.inr (s.1,s.2.1,s.2.2.1,q.2)))
def Ze7:Ctx:=mC [(190,[],Zuv),(191,[],Zuo)] [] 51 0
theorem Zag:CSound Tryz.prog ⟨51,0,true⟩ (.loop (loopOf 11 Tryz.f127)) (pieceSpec Zio Zhn (loop Zaf)) :=
 tL Ze7 11 Tryz.f127 ⟨Z56,Z4o,trivial⟩
abbrev Zip:Shape:=⟨sl_29,bl_13,[y18,(.int .i64),(.int .i64),y49],0⟩
abbrev Zho:List (ETag × Shape):=[(.ret,⟨sl_28,[],ts_0,0⟩),(.exit 0,⟨[],[],[],0⟩)]
def Zah (x:(List (List (T7)) × Int × Int × T54)):Option ((List (List (T7)) × Int × Int × T54) ⊕ (T4 ⊕ Unit)) :=
 let p:=x.2.2;
 bif (decide (p.1 < x.2.1)) then
 bif (inb p.1 (List.length x.1)) then
 bif (decide ((((List.length (getAt ([]:List T7) x.1 (toN p.1))):Nat):Int) > 24)) then
 some (.inr (.inl (p.1,(Int.negSucc 0),2)))
 else
 (loop Zaf (p.1,(getAt ([]:List T7) x.1 (toN p.1)),x.1,x.2.1,p.1,(getAt ([]:List T7) x.1 (toN p.1)),(((List.length (getAt ([]:List T7) x.1 (toN p.1))):Nat):Int),0,p.2)).bind fun r7 =>
 match r7 with
 | .inl y8 =>
 some (.inr (.inl (y8.1,y8.2.1,y8.2.2)))
 | .inr y8 =>
 some (.inl (y8.1,y8.2.1,(IntKind.wrap .i64 (y8.2.2.1+1)),y8.2.2.2))
 else
 none
 else
 some (.inr (.inr ()))
def Ze8:Ctx:=mC [(190,[],Zuv),(191,[],Zuo)] [(0,11,pieceSpec Zio Zhn (loop Zaf))] 51 0
theorem Zai:CSound Tryz.prog ⟨51,0,true⟩ (.loop (loopOf 6 Tryz.f127)) (pieceSpec Zip Zho (loop Zah)) :=
 tL Ze8 6 Tryz.f127 ⟨Z56,Z4o,trivial⟩ ⟨(pL 11 Tryz.f127 Zag),trivial⟩
abbrev Zld:Shape:=⟨[(0,(.hole y49))],[],[y49],0⟩
abbrev Zpz:Shape:=⟨sl_0,[],ts_0,0⟩
def Z4f (x:(T54)):Option T4 :=
 (Z51 x).bind fun r5 =>
 bif (r5.2 != 0) then
 some ((Int.negSucc 0),r5.1,r5.2)
 else
 (loop Zah (x.2.2.2.2.2,(((List.length x.2.2.2.2.2):Nat):Int),0,x)).bind fun r6 =>
 match r6 with
 | .inl y7 =>
 some (y7.1,y7.2.1,y7.2.2)
 | .inr y7 =>
 some ((Int.negSucc 0),(Int.negSucc 0),0)
abbrev Zuk:=Spec.shp Zld Zpz Z4f
def Ze6:Ctx:=mC [(190,[],Zuv),(191,[],Zuo)] [(0,11,pieceSpec Zio Zhn (loop Zaf)),(0,6,pieceSpec Zip Zho (loop Zah))] 51 0
theorem Z4g:Sound Tryz.prog 127 (Zuk) :=
 tS Ze6 Tryz.f127 ⟨Z56,Z4o,trivial⟩ ⟨(pL 11 Tryz.f127 Zag),(pL 6 Tryz.f127 Zai),trivial⟩
abbrev Zlc:Shape:=⟨[(0,(.hole y49))],[],[y49],0⟩
abbrev Zpy:Shape:=⟨sl_1,[],ts_1,0⟩
def Z4d (x:(T54)):Option (Bool) :=
 (Z4f x).bind fun r4 =>
 some (r4.2.2 == 0)
abbrev Zuj:=Spec.shp Zlc Zpy Z4d
def Ze5:Ctx:=mC [(127,[],Zuk)] [] 14 0
theorem Z4e:Sound Tryz.prog 95 (Zuj) :=
 tS Ze5 Tryz.f95 ⟨Z4g,trivial⟩
abbrev Zm3:Shape:=⟨[(0,(.hole y49)),(1,(.hole (.int .i64)))],[],[y49,(.int .i64)],0⟩
abbrev Zqp:Shape:=⟨sl_2,[],ts_2,0⟩
def Z5v (x:(T54 × Int)):Option (Int) :=
 (Z4d x.1).bind fun r3 =>
 bif (Bool.not r3) then
 some 1
 else
 bif (decide (x.2 < 1)) then
 some 2
 else
 bif (decide (x.2 > 400)) then
 some 2
 else
 some 0
abbrev Zv9:=Spec.shp Zm3 Zqp Z5v
def Zf0:Ctx:=mC [(95,[],Zuj)] [] 16 0
theorem Z5w:Sound Tryz.prog 57 (Zv9) :=
 tS Zf0 Tryz.f57 ⟨Z4e,trivial⟩
abbrev Zlu:Shape:=⟨sl_2,[],ts_2,0⟩
abbrev Zqg:Shape:=⟨sl_30,[],[y32,(.int .i64)],0⟩
def Z5d (x:(Int)):Option (T22 × Int) :=
 bif (decide (x < 0)) then
 some ((0,0,([]:List Int),0),2)
 else
 bif (decide (x > 8)) then
 some ((0,0,([]:List Int),0),2)
 else
 bif (mkOK x x) then
 some ((x,0,(List.replicate (toN x) 0),0),0)
 else
 none
abbrev Zv0:=Spec.shp Zlu Zqg Z5d
def Zeq:Ctx:=mC [] [] 15 0
theorem Z5e:Sound Tryz.prog 192 (Zv0) :=
 tS Zeq Tryz.f192 trivial
abbrev Zj9:Shape:=⟨sl_2,[],ts_2,0⟩
abbrev Znv:Shape:=⟨sl_31,[],[y50,(.int .i64)],0⟩
def Z4 (x:(Int)):Option T53 :=
 bif (decide (x < (Int.negSucc 0))) then
 some ((0,false,(0,0,([]:List Int),0),0,0,([]:List T7),([]:List T7)),2)
 else
 bif (decide (x > 3)) then
 some ((0,false,(0,0,([]:List Int),0),0,0,([]:List T7),([]:List T7)),2)
 else
 (Z5d (Max.max x 0)).bind fun r8 =>
 some ((x,false,r8.1,0,0,([]:List T7),([]:List T7)),r8.2)
abbrev Zsh:=Spec.shp Zj9 Znv Z4
def Zbj:Ctx:=mC [(192,[],Zv0)] [] 23 0
theorem Z5:Sound Tryz.prog 128 (Zsh) :=
 tS Zbj Tryz.f128 ⟨Z5e,trivial⟩
abbrev Zib:Shape:=⟨[(2,(.ptr 0 [])),(5,(.ptr 1 [])),(26,(.hole y1)),(27,(.hole (.int .i64))),(28,(.hole (.int .i64)))],bl_14,[y1,(.int .i64),(.int .i64),(.int .i64),(.int .i64),(.int .i64),y6,y49,y6,y28,y51,y29,y37],0⟩
abbrev Zha:List (ETag × Shape):=[(.exit 0,⟨[(2,(.ptr 0 [])),(5,(.ptr 1 []))],bl_14,[(.int .i64),(.int .i64),(.int .i64),y6,y49,y6,y28,y51,y29,y37],0⟩)]
def Z9p (x:(List Int × Int × Int × Int × Int × Int × (Int × Int) × T54 × (Int × Int) × List (T23) × List T51 × List (T24) × List T31)):Option ((List Int × Int × Int × Int × Int × Int × (Int × Int) × T54 × (Int × Int) × List (T23) × List T51 × List (T24) × List T31) ⊕ (Int × Int × Int × (Int × Int) × T54 × (Int × Int) × List (T23) × List T51 × List (T24) × List T31)) :=
 let s:=x.2.2;
 let p:=s.2.2.2.2;
 let q:=p.2.2.2;
 bif (decide (s.1 < x.2.1)) then
 bif (inb s.1 (List.length x.1)) then
 (Z4 (getAt 0 x.1 (toN s.1))).bind fun r7 =>
 bif (fits ((List.length q.2.1)+(List.length (r7.1 :: ([]:List (Int × T49)))))) then
 some (.inl (x.1,x.2.1,(IntKind.wrap .i64 (s.1+1)),s.2.1,s.2.2.1,s.2.2.2.1,p.1,p.2.1,p.2.2.1,q.1,(q.2.1++(r7.1 :: ([]:List (Int × T49)))),q.2.2.1,q.2.2.2))
 else
 none
 else
 none
 else
 some (.inr (s.2.1,s.2.2.1,s.2.2.2.1,p.1,p.2.1,p.2.2.1,q.1,q.2.1,q.2.2.1,q.2.2.2))
def Zcg:Ctx:=mC [(95,[],Zuj),(128,[],Zsh)] [] 61 0
theorem Z9q:CSound Tryz.prog ⟨61,0,true⟩ (.loop (loopOf 6 Tryz.f96)) (pieceSpec Zib Zha (loop Z9p)) :=
 tL Zcg 6 Tryz.f96 ⟨Z4e,Z5,trivial⟩
abbrev Zky:Shape:=⟨[(0,(.ptr 0 [])),(1,(.hole (.int .i64))),(2,(.hole (.int .i64))),(3,(.hole (.int .i64))),(4,(.hole (.int .i64))),(5,(.hole (.int .i64)))],bl_15,[(.int .i64),(.int .i64),(.int .i64),(.int .i64),(.int .i64),y49,y6,y28,y51,y29,y37,y36],0⟩
abbrev Zpk:Shape:=⟨sl_2,bl_15,ts_24,1⟩
def Z3l (x:(Int × Int × Int × Int × Int × T54 × (Int × Int) × List (T23) × List T51 × List (T24) × List T31 × List (T20))):Option T58 :=
 let u:=IntKind.wrap .i64;
 let q:=x.2.2.2;
 let p:=q.2.2.2;
 let s:=p.2.2.2;
 bif (fits ((List.length s.2.2)+(List.length ((x.1,x.2.1,x.2.2.1,q.1,q.2.1) :: ([]:List T20))))) then
 some ((u ((u (p.1.1+1)) - 1)),q.2.2.1,((u (p.1.1+1)),p.1.2),p.2.1,p.2.2.1,s.1,s.2.1,(s.2.2++((x.1,x.2.1,x.2.2.1,q.1,q.2.1) :: ([]:List T20))))
 else
 none
abbrev Zu5:=Spec.shp Zky Zpk Z3l
def Zdm:Ctx:=mC [] [] 43 1
theorem Z3m:Sound Tryz.prog 129 (Zu5) :=
 tS Zdm Tryz.f129 trivial
abbrev Zkg:Shape:=⟨sl_32,bl_15,[(.int .i64),(.int .i64),y49,y6,y28,y51,y29,y37,y36],0⟩
abbrev Zp2:Shape:=⟨[],bl_15,ts_25,1⟩
def Z2k (x:(Int × Int × T54 × (Int × Int) × List (T23) × List T51 × List (T24) × List T31 × List (T20))):Option T57 :=
 let v:=x.2.2;
 let u:=v.2.2;
 let w:=u.2.2;
 let s:=((0:Int),(0:Int),(0:Int),false);
 let p:=(List.set u.1 (toN x.1) ((getAt s u.1 (toN x.1)).1,x.2.1,(getAt s u.1 (toN x.1)).2.2));
 let q:=(List.set p (toN x.1) ((getAt s p (toN x.1)).1,(getAt s p (toN x.1)).2.1,(0:Int),(getAt s p (toN x.1)).2.2.2));
 bif (inb x.1 (List.length u.1)) then
 bif (inb (getAt s q (toN x.1)).1 (List.length v.1.2.2.2.2.2)) then
 bif (x.2.1 == (((List.length (getAt ([]:List T7) v.1.2.2.2.2.2 (toN (getAt s q (toN x.1)).1))):Nat):Int)) then
 some (v.1,v.2.1,(List.set q (toN x.1) ((getAt s q (toN x.1)).1,(getAt s q (toN x.1)).2.1,2,(getAt s q (toN x.1)).2.2.2)),u.2.1,w.1,w.2.1,w.2.2)
 else
 some (v.1,v.2.1,q,u.2.1,w.1,w.2.1,w.2.2)
 else
 none
 else
 none
abbrev Ztn:=Spec.shp Zkg Zp2 Z2k
def Zd2:Ctx:=mC [] [] 39 1
theorem Z2l:Sound Tryz.prog 130 (Ztn) :=
 tS Zd2 Tryz.f130 trivial
abbrev Zkv:Shape:=⟨[(0,(.hole y21)),(1,(.ptr 0 []))],bl_16,[y21,(.int .i64)],0⟩
abbrev Zph:Shape:=⟨sl_1,bl_16,ts_15,1⟩
def Z3c (x:(T23 × Int)):Option T1 :=
 some ((x.1.2.2.1 == x.2),x.2)
abbrev Zu2:=Spec.shp Zkv Zph Z3c
def Zdi:Ctx:=mC [] [] 8 1
theorem Z3d:Sound Tryz.prog 195 (Zu2) :=
 tS Zdi Tryz.f195 trivial
theorem Z3e:Sound Tryz.prog 195 (Spec.shpR Zkv Zph Z3c) :=
 Sound.shpR (fun x y h=>by have h:=Option.some.inj h; subst h; rfl) Z3d
abbrev Ziw:Shape:=⟨[(0,(.sl 0)),(1,(.fn 195 .nil (.cons (.ptr 1 []) .nil))),(7,(.hole (.int .i64))),(8,(.hole (.int .i64)))],bl_17,[(.int .i64),(.int .i64),y28,(.int .i64)],2⟩
abbrev Zhv:List (ETag × Shape):=[(.ret,⟨sl_3,bl_17,[(.int .i64),y28,(.int .i64)],2⟩),(.exit 0,⟨[],bl_17,[y28,(.int .i64)],2⟩)]
def Zav (x:(Int × Int × List (T23) × Int)):Option ((Int × Int × List (T23) × Int) ⊕ ((Int × List (T23) × Int) ⊕ (List (T23) × Int))) :=
 let p:=x.2.2;
 bif (decide (x.2.1 < x.1)) then
 bif (inb x.2.1 (List.length p.1)) then
 (Z3c ((getAt (0,0,0,false) p.1 (toN x.2.1)),p.2)).bind fun r14 =>
 bif r14.1 then
 some (.inr (.inl (x.2.1,p.1,p.2)))
 else
 some (.inl (x.1,(IntKind.wrap .i64 (x.2.1+1)),p.1,p.2))
 else
 none
 else
 some (.inr (.inr (p.1,p.2)))
def Zfr:Ctx:=mC [(195,[],Spec.shpR Zkv Zph Z3c)] [] 19 2
theorem Zaw:CSound Tryz.prog ⟨19,2,true⟩ (.loop (loopOf 3 Tryz.f250)) (pieceSpec Ziw Zhv (loop Zav)) :=
 tL Zfr 3 Tryz.f250 ⟨Z3e,trivial⟩
abbrev Zmp:Shape:=⟨[(0,(.sl 0)),(1,(.fn 195 .nil (.cons (.ptr 1 []) .nil)))],bl_17,[y28,(.int .i64)],0⟩
abbrev Zrb:Shape:=⟨sl_2,bl_17,[(.int .i64),y28,(.int .i64)],2⟩
def Z73 (x:(List (T23) × Int)):Option (Int × List (T23) × Int) :=
 (loop Zav ((((List.length x.1):Nat):Int),0,x.1,x.2)).bind fun r13 =>
 match r13 with
 | .inl y14 =>
 some (y14.1,y14.2.1,y14.2.2)
 | .inr y14 =>
 some ((Int.negSucc 0),y14.1,y14.2)
abbrev Zvv:=Spec.shp Zmp Zrb Z73
def Zfq:Ctx:=mC [(195,[],Spec.shpR Zkv Zph Z3c)] [(0,3,pieceSpec Ziw Zhv (loop Zav))] 19 2
theorem Z74:Sound Tryz.prog 250 (Zvv) :=
 tS Zfq Tryz.f250 ⟨Z3e,trivial⟩ ⟨(pL 3 Tryz.f250 Zaw),trivial⟩
abbrev Zmf:Shape:=⟨[(0,(.sl 0)),(1,(.fn 195 .nil (.cons (.ptr 1 []) .nil)))],bl_17,[y28,(.int .i64)],0⟩
abbrev Zr1:Shape:=⟨sl_1,bl_17,[.bool,y28,(.int .i64)],2⟩
def Z6j (x:(List (T23) × Int)):Option (Bool × List (T23) × Int) :=
 (Z73 (x.1,x.2)).bind fun r12 =>
 some ((decide (r12.1 ≥ 0)),r12.2.1,r12.2.2)
abbrev Zvl:=Spec.shp Zmf Zr1 Z6j
def Zfd:Ctx:=mC [(250,[2000000,195],Zvv)] [] 9 2
theorem Z6k:Sound Tryz.prog 194 (Zvl) :=
 tS Zfd Tryz.f194 ⟨Z74,trivial⟩
abbrev Zku:Shape:=⟨[(0,(.hole (.int .i64))),(1,(.ptr 0 []))],bl_18,ts_24,0⟩
abbrev Zpg:Shape:=⟨sl_1,bl_18,[.bool,y49,y6,y28,y51,y29,y37,y36],2⟩
def Z3b (x:T58):Option (Bool × T54 × (Int × Int) × List (T23) × List T51 × List (T24) × List T31 × List (T20)) :=
 let p:=x.2.2.2;
 (Z6j (p.1,x.1)).bind fun r11 =>
 some (r11.1,x.2.1,x.2.2.1,r11.2.1,p.2.1,p.2.2.1,p.2.2.2.1,p.2.2.2.2)
abbrev Zu1:=Spec.shp Zku Zpg Z3b
def Zdh:Ctx:=mC [(194,[2000000,195],Zvl)] [] 11 2
theorem Z3f:Sound Tryz.prog 193 (Zu1) :=
 tS Zdh Tryz.f193 ⟨Z6k,trivial⟩
abbrev Zkt:Shape:=⟨sl_4,bl_15,ts_25,0⟩
abbrev Zpf:Shape:=⟨[],bl_15,ts_25,1⟩
def Z3a (x:T57):Option T57 :=
 let s:=x.2.2.2;
 bif (x.2.1.2 != 0) then
 some (x.1,x.2.1,x.2.2.1,s.1,s.2.1,s.2.2.1,s.2.2.2)
 else
 (Z3b (0,x.1,x.2.1,x.2.2.1,s.1,s.2.1,s.2.2.1,s.2.2.2)).bind fun r10 =>
 let p:=r10.2.2.2;
 let u:=p.2.2;
 bif r10.1 then
 some (r10.2.1,r10.2.2.1,p.1,p.2.1,u.1,u.2.1,u.2.2)
 else
 (Z3b (1,r10.2.1,r10.2.2.1,p.1,p.2.1,u.1,u.2.1,u.2.2)).bind fun r11 =>
 let q:=r11.2.2.2;
 let v:=q.2.2;
 bif r11.1 then
 some (r11.2.1,(r11.2.2.1.1,2),q.1,q.2.1,v.1,v.2.1,v.2.2)
 else
 some (r11.2.1,(r11.2.2.1.1,1),q.1,q.2.1,v.1,v.2.1,v.2.2)
abbrev Zu0:=Spec.shp Zkt Zpf Z3a
def Zdg:Ctx:=mC [(193,[],Spec.thin (Zu1))] [] 26 1
theorem Z3g:Sound Tryz.prog 131 (Zu0) :=
 tS Zdg Tryz.f131 ⟨Z3f.thin,trivial⟩
abbrev Zk0:Shape:=⟨[(0,(.hole y49))],[],[y49],0⟩
abbrev Zom:Shape:=⟨[(0,(.hole y55)),(1,(.hole y36)),(2,(.hole (.int .i64)))],[],[y55,y36,(.int .i64)],0⟩
def Z1o (x:(T54)):Option ((T54 × T60) × List (T20) × Int) :=
 (Z4d x).bind fun r5 =>
 bif (Bool.not r5) then
 some (((([]:List Int),0,0,0,([]:List ((List T1) × Bool)),([]:List (List T7))),([]:List T23),([]:List (Int × T49)),([]:List T26),([]:List (Int × T18)),0,0),([]:List T20),1)
 else
 bif (mkOK x.2.1 x.2.1) then
 bif (mkOK x.2.2.1 x.2.2.1) then
 (loop Z9p (x.1,(((List.length x.1):Nat):Int),0,0,0,0,(0,0),x,(0,0),((0,0,0,false) :: ([]:List T23)),([]:List (Int × T49)),(List.replicate (toN x.2.1) (false,([]:List T7))),(List.replicate (toN x.2.2.1) (0,0,([]:List T7))))).bind fun r6 =>
 (Z3l (0,0,0,0,(Int.negSucc 0),r6.2.2.2.2.1,r6.2.2.2.2.2.1,r6.2.2.2.2.2.2.1,r6.2.2.2.2.2.2.2.1,r6.2.2.2.2.2.2.2.2.1,r6.2.2.2.2.2.2.2.2.2,([]:List T20))).bind fun r7 =>
 (Z2k (0,0,r7.2.1,r7.2.2.1,r7.2.2.2.1,r7.2.2.2.2.1,r7.2.2.2.2.2.1,r7.2.2.2.2.2.2.1,r7.2.2.2.2.2.2.2)).bind fun r8 =>
 (Z3a (r8.1,r8.2.1,r8.2.2.1,r8.2.2.2.1,r8.2.2.2.2.1,r8.2.2.2.2.2.1,r8.2.2.2.2.2.2)).bind fun r9 =>
 some ((r9.1,r9.2.2.1,r9.2.2.2.1,r9.2.2.2.2.1,r9.2.2.2.2.2.1,r9.2.1),r9.2.2.2.2.2.2,0)
 else
 none
 else
 none
abbrev Zt7:=Spec.shp Zk0 Zom Z1o
def Zcf:Ctx:=mC [(95,[],Zuj),(128,[],Zsh),(129,[],Zu5),(130,[],Ztn),(131,[],Zu0)] [(0,6,pieceSpec Zib Zha (loop Z9p))] 61 0
theorem Z1p:Sound Tryz.prog 96 (Zt7) :=
 tS Zcf Tryz.f96 ⟨Z4e,Z5,Z3m,Z2l,Z3g,trivial⟩ ⟨(pL 6 Tryz.f96 Z9q),trivial⟩
abbrev Zm7:Shape:=⟨[(0,(.hole y36))],[],[y36],0⟩
abbrev Zqt:Shape:=⟨[(0,(.sl 0))],[.row y31],[y36],0⟩
def Z63 (x:(List (T20))):Option (List (T20)) :=
 bif (Nat.beq (List.length x) (0:Nat)) then
 amb (
 some ([]:List T20)) (
 bif (fits ((List.length ([]:List T20))+(List.length x))) then
 some (([]:List T20)++x)
 else
 none)
 else
 bif (fits ((List.length ([]:List T20))+(List.length x))) then
 some (([]:List T20)++x)
 else
 none
abbrev Zvd:=Spec.shp Zm7 Zqt Z63
def Zf5:Ctx:=mC [] [] 8 0
theorem Z64:Sound Tryz.prog 97 (Zvd) :=
 tS Zf5 Tryz.f97 trivial
abbrev Zk3:Shape:=⟨[(0,(.hole y49)),(1,(.hole y21))],[],[y49,y21],0⟩
abbrev Zop:Shape:=⟨sl_1,[],ts_1,0⟩
def Z1u (x:(T54 × T23)):Option (Bool) :=
 let p:=x.2.2;
 bif (decide (x.2.1 < 0)) then
 some false
 else
 bif (decide (x.2.1 ≥ (((List.length x.1.2.2.2.2.2):Nat):Int))) then
 some false
 else
 bif (decide (p.1 < 0)) then
 some false
 else
 bif (inb x.2.1 (List.length x.1.2.2.2.2.2)) then
 bif (decide (p.1 > (((List.length (getAt ([]:List T7) x.1.2.2.2.2.2 (toN x.2.1))):Nat):Int))) then
 some false
 else
 bif (decide (p.2.1 ≥ 0)) then
 bif (decide (p.2.1 <= 2)) then
 bif (inb x.2.1 (List.length x.1.2.2.2.2.2)) then
 some ((p.1 == (((List.length (getAt ([]:List T7) x.1.2.2.2.2.2 (toN x.2.1))):Nat):Int)) == (p.2.1 == 2))
 else
 none
 else
 some false
 else
 some false
 else
 none
abbrev Zta:=Spec.shp Zk3 Zop Z1u
def Zcj:Ctx:=mC [] [] 57 0
theorem Z1v:Sound Tryz.prog 197 (Zta) :=
 tS Zcj Tryz.f197 trivial
abbrev Zk6:Shape:=⟨[(0,(.hole y21)),(1,(.ptr 0 []))],bl_13,[y21,y49],0⟩
abbrev Zos:Shape:=⟨sl_1,bl_13,[.bool,y49],1⟩
def Z1z (x:(T23 × T54)):Option (Bool × T54) :=
 (Z1u (x.2,x.1)).bind fun r14 =>
 some ((Bool.not r14),x.2)
abbrev Ztd:=Spec.shp Zk6 Zos Z1z
def Zcn:Ctx:=mC [(197,[],Zta)] [] 8 1
theorem Z20:Sound Tryz.prog 196 (Ztd) :=
 tS Zcn Tryz.f196 ⟨Z1v,trivial⟩
abbrev Ziv:Shape:=⟨[(0,(.hole y28)),(1,(.fn 196 .nil (.cons (.ptr 0 []) .nil))),(7,(.hole (.int .i64))),(8,(.hole (.int .i64)))],bl_13,[y28,(.int .i64),(.int .i64),y49],1⟩
abbrev Zhu:List (ETag × Shape):=[(.ret,⟨sl_3,bl_13,[(.int .i64),y49],1⟩),(.exit 0,⟨[],bl_13,[y49],1⟩)]
def Zat (x:(List (T23) × Int × Int × T54)):Option ((List (T23) × Int × Int × T54) ⊕ ((Int × T54) ⊕ (T54))) :=
 let p:=x.2.2;
 bif (decide (p.1 < x.2.1)) then
 bif (inb p.1 (List.length x.1)) then
 (Z1z ((getAt (0,0,0,false) x.1 (toN p.1)),p.2)).bind fun r13 =>
 bif r13.1 then
 some (.inr (.inl (p.1,r13.2)))
 else
 some (.inl (x.1,x.2.1,(IntKind.wrap .i64 (p.1+1)),r13.2))
 else
 none
 else
 some (.inr (.inr p.2))
def Zfp:Ctx:=mC [(196,[],Ztd)] [] 19 1
theorem Zau:CSound Tryz.prog ⟨19,1,true⟩ (.loop (loopOf 3 Tryz.f250)) (pieceSpec Ziv Zhu (loop Zat)) :=
 tL Zfp 3 Tryz.f250 ⟨Z20,trivial⟩
abbrev Zmo:Shape:=⟨[(0,(.hole y28)),(1,(.fn 196 .nil (.cons (.ptr 0 []) .nil)))],bl_13,[y28,y49],0⟩
abbrev Zra:Shape:=⟨sl_2,bl_13,[(.int .i64),y49],1⟩
def Z71 (x:(List (T23) × T54)):Option (Int × T54) :=
 (loop Zat (x.1,(((List.length x.1):Nat):Int),0,x.2)).bind fun r12 =>
 match r12 with
 | .inl y13 =>
 some (y13.1,y13.2)
 | .inr y13 =>
 some ((Int.negSucc 0),y13)
abbrev Zvu:=Spec.shp Zmo Zra Z71
def Zfo:Ctx:=mC [(196,[],Ztd)] [(0,3,pieceSpec Ziv Zhu (loop Zat))] 19 1
theorem Z72:Sound Tryz.prog 250 (Zvu) :=
 tS Zfo Tryz.f250 ⟨Z20,trivial⟩ ⟨(pL 3 Tryz.f250 Zau),trivial⟩
abbrev Zme:Shape:=⟨[(0,(.hole y28)),(1,(.fn 196 .nil (.cons (.ptr 0 []) .nil)))],bl_13,[y28,y49],0⟩
abbrev Zr0:Shape:=⟨sl_1,bl_13,[.bool,y49],1⟩
def Z6h (x:(List (T23) × T54)):Option (Bool × T54) :=
 (Z71 (x.1,x.2)).bind fun r11 =>
 some ((decide (r11.1 ≥ 0)),r11.2)
abbrev Zvk:=Spec.shp Zme Zr0 Z6h
def Zfc:Ctx:=mC [(250,[196],Zvu)] [] 9 1
theorem Z6i:Sound Tryz.prog 194 (Zvk) :=
 tS Zfc Tryz.f194 ⟨Z72,trivial⟩
abbrev Zlx:Shape:=⟨[(0,(.hole y32))],[],[y32],0⟩
abbrev Zqj:Shape:=⟨sl_1,[],ts_1,0⟩
def Z5j (x:(T22)):Option (Bool) :=
 bif (decide (x.1 ≥ 0)) then
 bif (decide (x.1 <= 8)) then
 bif ((((List.length x.2.2.1):Nat):Int) == x.1) then
 bif (decide (x.2.2.2 ≥ 0)) then
 bif (decide (x.2.2.2 <= x.1)) then
 bif (decide (x.2.1 ≥ 0)) then
 some (decide (x.2.1 < (Max.max 1 x.1)))
 else
 some false
 else
 some false
 else
 some false
 else
 some false
 else
 some false
 else
 some false
abbrev Zv3:=Spec.shp Zlx Zqj Z5j
def Zet:Ctx:=mC [] [] 46 0
theorem Z5k:Sound Tryz.prog 280 (Zv3) :=
 tS Zet Tryz.f280 trivial
abbrev Zly:Shape:=⟨[(0,(.hole (.one y32)))],[],[(.one y32)],0⟩
abbrev Zqk:Shape:=⟨[(0,(.fn 295 .nil (.cons (.ptr 0 []) .nil)))],[.var (.hole (.one y32))],[(.one y32)],0⟩
def Z5l (x:(T22)):Option (T22) :=
 some x
abbrev Zv4:=Spec.shp Zly Zqk Z5l
def Zeu:Ctx:=mC [] [] 4 0
theorem Z5o:Sound Tryz.prog 281 (Zv4) :=
 tS Zeu Tryz.f281 trivial
abbrev Zlt:Shape:=⟨[(4,(.ptr 0 [])),(12,(.hole (.int .i64)))],bl_4,ts_11,0⟩
abbrev Zqf:Shape:=⟨sl_2,bl_4,ts_11,1⟩
def Z5b (x:T2):Option T2 :=
 bif (fits ((List.length x.2)+(List.length (x.1 :: ([]:List Int))))) then
 some (0,(x.2++(x.1 :: ([]:List Int))))
 else
 none
def Zep:Ctx:=mC [] [] 18 1 false
theorem Z5c:YSound Tryz.prog 16449542 [4] (Spec.rnd [4,12] Zlt Zqf Z5b) :=
 YSound.rnd (C:=Zep) (rt:=⟨rfPs (rfOf 6 Tryz.f251),rfAs (rfOf 6 Tryz.f251),rfBody (rfOf 6 Tryz.f251),18⟩) (by kernel_rfl) (ctxOK mixed tbl_ok rfl trivial) (SumOK.of trivial) (SumOK.of trivial) rfl rfl [4] Zlt Zqf rfl (by decide) (by decide) rfl (fun y=>⟨_,rfl⟩) (of_decide_eq_true (by kernel_rfl)) (of_decide_eq_true (by kernel_rfl)) Z5b (fun x=>by kernel_rfl)
abbrev Zm0:Shape:=⟨[(0,(.hole (.one y32))),(1,(.hole (.int .i64)))],[],[(.one y32),(.int .i64)],0⟩
abbrev Zqm:Shape:=⟨sl_2,[],ts_2,0⟩
def Z5p (x:(T22 × Int)):Option (Int) :=
 bif (x.1.1 != 0) then
 some (Int.tmod (IntKind.wrap .i64 (x.1.2.1+x.2)) x.1.1)
 else
 none
abbrev Zv6:=Spec.shp Zm0 Zqm Z5p
def Zex:Ctx:=mC [] [] 14 0
theorem Z5s:Sound Tryz.prog 296 (Zv6) :=
 tS Zex Tryz.f296 trivial
abbrev Zir:Shape:=⟨[(0,(.yl 0)),(1,(.ptr 1 [])),(6,(.hole (.int .i64))),(7,(.hole (.int .i64)))],bl_19,[(.int .i64),(.int .i64),(.one y32),y1],3⟩
abbrev Zhq:List (ETag × Shape):=[(.ret,⟨[],bl_20,[(.int .i64),(.one y32),y1],3⟩),(.exit 0,⟨[],bl_19,[(.one y32),y1],3⟩)]
def Zal (x:(Int × Int × T22 × List Int)):Option ((Int × Int × T22 × List Int) ⊕ ((Int × T22 × List Int) ⊕ (T22 × List Int))) :=
 let p:=x.2.2;
 bif (decide (x.2.1 < x.1)) then
 (Z5p (p.1,x.2.1)).bind fun r18 =>
 bif (inb r18 (List.length p.1.2.2.1)) then
 (Z5b ((getAt 0 p.1.2.2.1 (toN r18)),p.2)).bind fun r19 =>
 bif (eqI r19.1 0) then
 some (.inl (x.1,(IntKind.wrap .i64 (x.2.1+1)),p.1,r19.2))
 else
 some (.inr (.inl (r19.1,p.1,r19.2)))
 else
 none
 else
 some (.inr (.inr (p.1,p.2)))
def Zew:Ctx:=mC [(296,[],Zv6)] [] 22 3 true [(16449542,[4],Spec.rnd [4,12] { sl:=[(4,(.ptr 0 [])),(12,(.hole (.int .i64)))],bl:=[.var (.sl 1),.row (.int .i64)],ts:=[(.int .i64),(.slice (.int .i64))],pin:=0 } { sl:=[(0,(.hole (.int .i64)))],bl:=[.var (.sl 1),.row (.int .i64)],ts:=[(.int .i64),(.slice (.int .i64))],pin:=1 } Z5b)]
theorem Zam:CSound Tryz.prog ⟨22,3,true⟩ (.loop (loopOf 2 Tryz.f295)) (pieceSpec Zir Zhq (loop Zal)) :=
 tL Zew 2 Tryz.f295 ⟨Z5s,trivial⟩ trivial ⟨Z5c,trivial⟩
abbrev Zlz:Shape:=⟨[(0,(.yl 0)),(1,(.ptr 1 []))],bl_19,[(.one y32),y1],0⟩
abbrev Zql:Shape:=⟨[],bl_20,[(.int .i64),(.one y32),y1],3⟩
def Z5m (x:(T22 × List Int)):Option (Int × T22 × List Int) :=
 (loop Zal (x.1.2.2.2,0,x.1,x.2)).bind fun r17 =>
 match r17 with
 | .inl y18 =>
 some (y18.1,y18.2.1,y18.2.2)
 | .inr y18 =>
 some (0,y18.1,y18.2)
abbrev Zv5:=Spec.shp Zlz Zql Z5m
def Zev:Ctx:=mC [(296,[],Zv6)] [(0,2,pieceSpec Zir Zhq (loop Zal))] 22 3 true [(16449542,[4],Spec.rnd [4,12] Zlt Zqf Z5b)]
theorem Z5n:Sound Tryz.prog 295 (Zv5) :=
 tS Zev Tryz.f295 ⟨Z5s,trivial⟩ ⟨(pL 2 Tryz.f295 Zam),trivial⟩ ⟨Z5c,trivial⟩
abbrev Zls:Shape:=⟨[(0,(.hole y32))],[],[y32],0⟩
abbrev Zqe:Shape:=⟨sl_14,[],ts_14,0⟩
def Z59 (x:(T22)):Option T3 :=
 (Z5j x).bind fun r14 =>
 bif (Bool.not r14) then
 some (([]:List Int),1)
 else
 (Z5l x).bind fun r15 =>
 (Z5m (r15,([]:List Int))).bind fun r16 =>
 bif (eqI r16.1 0) then
 some (r16.2.2,0)
 else
 bif (eqI r16.1 1) then
 some (([]:List Int),0)
 else
 none
abbrev Zuz:=Spec.shp Zls Zqe Z59
def Zeo:Ctx:=mC [(280,[],Zv3),(281,[],Zv4)] [(3,6,Yfa (rfF (rfOf 6 Tryz.f251)) 16449542 [4] [] [(295,[17449542],Zv5)])] 18 0
theorem Z5a:Sound Tryz.prog 251 (Zuz) :=
 tS Zeo Tryz.f251 ⟨Z5k,Z5o,trivial⟩ ⟨(pR 6 Tryz.f251 (Yfc (c:=rfOf 6 Tryz.f251) rfl (by kernel_rfl) Z5n [4] [])),trivial⟩
abbrev Znr:Shape:=⟨[(0,(.hole y7))],[],[y7],0⟩
abbrev Zsd:Shape:=⟨sl_1,[],ts_1,0⟩
def Z9b (x:(T7)):Option (Bool) :=
 bif (decide (x.1 ≥ 0)) then
 bif (decide (x.2.1 ≥ 0)) then
 some (decide (x.2.2 ≥ 0))
 else
 some false
 else
 some false
abbrev Zwx:=Spec.shp Znr Zsd Z9b
def Zh2:Ctx:=mC [] [] 16 0
theorem Z9c:Sound Tryz.prog 283 (Zwx) :=
 tS Zh2 Tryz.f283 trivial
abbrev Znq:Shape:=⟨[(0,(.hole y7))],[],[y7],0⟩
abbrev Zsc:Shape:=⟨sl_1,[],ts_1,0⟩
def Z98 (x:(T7)):Option (Bool) :=
 (Z9b x).bind fun r19 =>
 some (Bool.not r19)
abbrev Zww:=Spec.shp Znq Zsc Z98
def Zh1:Ctx:=mC [(283,[],Zwx)] [] 6 0
theorem Z99:Sound Tryz.prog 282 (Zww) :=
 tS Zh1 Tryz.f282 ⟨Z9c,trivial⟩
abbrev Zj1:Shape:=⟨[(0,(.hole (.slice y7))),(1,(.fn 282 .nil .nil)),(7,(.hole (.int .i64))),(8,(.hole (.int .i64)))],[],[(.slice y7),(.int .i64),(.int .i64)],0⟩
abbrev Zi0:List (ETag × Shape):=[(.ret,⟨sl_3,[],ts_2,0⟩),(.exit 0,⟨[],[],[],0⟩)]
def Zb5 (x:(List (T7) × Int × Int)):Option ((List (T7) × Int × Int) ⊕ ((Int) ⊕ Unit)) :=
 bif (decide (x.2.2 < x.2.1)) then
 bif (inb x.2.2 (List.length x.1)) then
 (Z98 (getAt (0,0,0) x.1 (toN x.2.2))).bind fun r18 =>
 bif r18 then
 some (.inr (.inl x.2.2))
 else
 some (.inl (x.1,x.2.1,(IntKind.wrap .i64 (x.2.2+1))))
 else
 none
 else
 some (.inr (.inr ()))
def Zg1:Ctx:=mC [(282,[],Zww)] [] 19 0
theorem Zb6:CSound Tryz.prog ⟨19,0,true⟩ (.loop (loopOf 3 Tryz.f254)) (pieceSpec Zj1 Zi0 (loop Zb5)) :=
 tL Zg1 3 Tryz.f254 ⟨Z99,trivial⟩
abbrev Zmu:Shape:=⟨[(0,(.hole (.slice y7))),(1,(.fn 282 .nil .nil))],[],[(.slice y7)],0⟩
abbrev Zrg:Shape:=⟨sl_2,[],ts_2,0⟩
def Z7d (x:(List (T7))):Option (Int) :=
 (loop Zb5 (x,(((List.length x):Nat):Int),0)).bind fun r17 =>
 match r17 with
 | .inl y18 =>
 some y18
 | .inr y18 =>
 some (Int.negSucc 0)
abbrev Zw0:=Spec.shp Zmu Zrg Z7d
def Zg0:Ctx:=mC [(282,[],Zww)] [(0,3,pieceSpec Zj1 Zi0 (loop Zb5))] 19 0
theorem Z7e:Sound Tryz.prog 254 (Zw0) :=
 tS Zg0 Tryz.f254 ⟨Z99,trivial⟩ ⟨(pL 3 Tryz.f254 Zb6),trivial⟩
abbrev Zmi:Shape:=⟨[(0,(.hole (.slice y7))),(1,(.fn 282 .nil .nil))],[],[(.slice y7)],0⟩
abbrev Zr4:Shape:=⟨sl_1,[],ts_1,0⟩
def Z6p (x:(List (T7))):Option (Bool) :=
 (Z7d x).bind fun r16 =>
 some (decide (r16 ≥ 0))
abbrev Zvo:=Spec.shp Zmi Zr4 Z6p
def Zfg:Ctx:=mC [(254,[282],Zw0)] [] 9 0
theorem Z6q:Sound Tryz.prog 202 (Zvo) :=
 tS Zfg Tryz.f202 ⟨Z7e,trivial⟩
end
end Go.Proofs.YtifbgkikkiallaaGreat.VX.VxZ_Z

