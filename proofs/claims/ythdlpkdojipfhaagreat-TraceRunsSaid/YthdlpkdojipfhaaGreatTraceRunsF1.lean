/- Laid for the law TraceRuns. -/
import Derived.Test.YthdlpkdojipfhaaGreatTraceRunsF0
set_option linter.unusedVariables false
set_option linter.unusedSimpArgs false
set_option maxRecDepth 100000
namespace Go.Proofs.YthdlpkdojipfhaaGreat.VX.VxM_M
open Go.Proofs Go.Proofs.YthdlpkdojipfhaaGreat.VX.T2
noncomputable section
abbrev Zij:Shape:=⟨[(0,(.hole y0)),(1,(.fn 87 .nil .nil)),(7,(.hole (.int .i64))),(8,(.hole (.int .i64)))],[],ts_3,0⟩
abbrev Zhk:List (ETag × Shape):=[(.ret,⟨sl_3,[],ts_2,0⟩),(.exit 0,⟨[],[],[],0⟩)]
def Zaz (x:T9):Option (T9 ⊕ ((Int) ⊕ Unit)) :=
 bif (decide (x.2.2 < x.2.1)) then
 bif (inb x.2.2 (List.length x.1)) then
 (Z7f (getAt (0:Int) x.1 (toN x.2.2))).bind fun r7 =>
 bif r7 then
 some (.inr (.inl x.2.2))
 else
 some (.inl (x.1,x.2.1,(IntKind.wrap .i64 (x.2.2+(1:Int)))))
 else
 none
 else
 some (.inr (.inr ()))
def Zfp:Ctx:=mC [(87,[],Zva)] [] 19 0
theorem Zb0:CSound Tryz.prog ⟨19,0,true⟩ (.loop (loopOf 3 Tryz.f140)) (pieceSpec Zij Zhk (loop Zaz)) :=
 tL Zfp 3 Tryz.f140 ⟨Z7g,trivial⟩
abbrev Zm8:Shape:=⟨[(0,(.hole y0)),(1,(.fn 87 .nil .nil))],[],[y0],0⟩
abbrev Zqq:Shape:=⟨sl_2,[],ts_2,0⟩
def Z7a (x:(List Int)):Option (Int) :=
 (loop Zaz (x,(((List.length x):Nat):Int),(0:Int))).bind fun r6 =>
 match r6 with
 | .inl y7 =>
 some y7
 | .inr y7 =>
 some (Int.negSucc 0)
abbrev Zv7:=Spec.shp Zm8 Zqq Z7a
def Zfo:Ctx:=mC [(87,[],Zva)] [(0,3,pieceSpec Zij Zhk (loop Zaz))] 19 0
theorem Z7b:Sound Tryz.prog 140 (Zv7) :=
 tS Zfo Tryz.f140 ⟨Z7g,trivial⟩ ⟨(pL 3 Tryz.f140 Zb0),trivial⟩
abbrev Zlw:Shape:=⟨[(0,(.hole y0)),(1,(.fn 87 .nil .nil))],[],[y0],0⟩
abbrev Zqe:Shape:=⟨sl_1,[],ts_1,0⟩
def Z6m (x:(List Int)):Option (Bool) :=
 (Z7a x).bind fun r5 =>
 some (decide (r5 ≥ (0:Int)))
abbrev Zuv:=Spec.shp Zlw Zqe Z6m
def Zf2:Ctx:=mC [(140,[87],Zv7)] [] 9 0
theorem Z6n:Sound Tryz.prog 86 (Zuv) :=
 tS Zf2 Tryz.f86 ⟨Z7b,trivial⟩
abbrev Zmv:Shape:=⟨[],[],[],0⟩
abbrev Zrd:Shape:=⟨[(0,(.mp 0))],[.mp (.int .i64) (.int .i64)],[(.slice y4)],0⟩
def Z8m (x:Unit):Option T6 :=
 some (@mput (Int) (Int) (Ty.beq (.int .i64)) (15:Int) (13:Int) (@mput (Int) (Int) (Ty.beq (.int .i64)) (11:Int) (10:Int) (@mput (Int) (Int) (Ty.beq (.int .i64)) (9:Int) (8:Int) (@mput (Int) (Int) (Ty.beq (.int .i64)) (6:Int) (4:Int) (@mput (Int) (Int) (Ty.beq (.int .i64)) (5:Int) (4:Int) (@mput (Int) (Int) (Ty.beq (.int .i64)) (3:Int) (2:Int) ([]:List (Int × Int))))))))
abbrev Zvu:=Spec.shp Zmv Zrd Z8m
def Zge:Ctx:=mC [] [] 3 0
theorem Z8n:Sound Tryz.prog 89 (Zvu) :=
 tS Zge Tryz.f89 trivial
abbrev Zmk:Shape:=⟨sl_15,[.var (.pr (.hole y0) (.pr (.mp 1) (.pr (.hole y1) (.pr (.hole (.int .i64)) (.pr (.mp 2) (.pr (.mp 3) .nilm)))))),.mp y4 (.int .i64),.mp (.int .i64) (.int .i64),.mp (.int .i64) (.int .i64)],[y0,y1,(.int .i64),(.slice y8),(.slice y4),(.slice y4)],0⟩
abbrev Zr2:Shape:=⟨[(0,(.mp 4))],[.var (.pr (.hole y0) (.pr (.mp 1) (.pr (.hole y1) (.pr (.hole (.int .i64)) (.pr (.mp 2) (.pr (.mp 3) .nilm)))))),.mp y4 (.int .i64),.mp (.int .i64) (.int .i64),.mp (.int .i64) (.int .i64),.fm [1,3,5,6,7,11,12,14,15] (.cons (.fn 143 .nil (.cons (.ptr 5 []) .nil)) (.cons (.fn 144 .nil (.cons (.ptr 5 []) .nil)) (.cons (.fn 146 .nil (.cons (.ptr 5 []) .nil)) (.cons (.fn 147 .nil (.cons (.ptr 5 []) .nil)) (.cons (.fn 148 .nil (.cons (.ptr 5 []) .nil)) (.cons (.fn 149 .nil (.cons (.ptr 6 []) .nil)) (.cons (.fn 150 .nil (.cons (.ptr 6 []) .nil)) (.cons (.fn 151 .nil (.cons (.ptr 5 []) .nil)) (.cons (.fn 152 .nil (.cons (.ptr 5 []) .nil)) .nil))))))))),.var (.ptr 0 []),.var (.fn 141 .nil (.cons (.ptr 5 []) .nil))],[y0,y1,(.int .i64),(.slice y8),(.slice y4),(.slice y4)],4⟩
def Z7z (x:(List Int × List Int × Int × List (T8) × List (Int × Int) × List (Int × Int))):Option (List Int × List Int × Int × List (T8) × List (Int × Int) × List (Int × Int)) :=
 some (x.1,x.2.1,x.2.2.1,x.2.2.2.1,x.2.2.2.2.1,x.2.2.2.2.2)
abbrev Zvj:=Spec.shp Zmk Zr2 Z7z
def Zg3:Ctx:=mC [] [] 16 4
theorem Z8l:Sound Tryz.prog 90 (Zvj) :=
 tS Zg3 Tryz.f90 trivial
abbrev Zme:Shape:=⟨sl_44,bl_33,ts_19,0⟩
abbrev Zqw:Shape:=⟨sl_1,bl_33,ts_20,7⟩
def Z7m (x:T38):Option T28 :=
 bif (inb x.2.1.1 8) then
 bif (decide ((getAt (0:Int) x.2.2.2.1 (toN x.2.1.1)) > (0:Int))) then
 some (false,x.2.2.1,x.2.2.2.1,x.2.2.2.2.1,x.2.2.2.2.2.1,x.2.2.2.2.2.2.1,x.2.2.2.2.2.2.2)
 else
 bif (x.2.1.2.2.1 != (0:Int)) then
 some (false,x.2.2.1,x.2.2.2.1,x.2.2.2.2.1,x.2.2.2.2.2.1,x.2.2.2.2.2.2.1,x.2.2.2.2.2.2.2)
 else
 bif (x.2.1.2.2.2.1 != (0:Int)) then
 some (false,x.2.2.1,x.2.2.2.1,x.2.2.2.2.1,x.2.2.2.2.2.1,x.2.2.2.2.2.2.1,x.2.2.2.2.2.2.2)
 else
 bif (x.2.1.1 == (0:Int)) then
 some ((x.2.1.2.2.2.2 == (Int.negSucc 0)),x.2.2.1,x.2.2.2.1,x.2.2.2.2.1,x.2.2.2.2.2.1,x.2.2.2.2.2.2.1,x.2.2.2.2.2.2.2)
 else
 bif (x.2.1.2.2.2.2 != (Int.negSucc 0)) then
 bif (inb x.2.1.2.2.2.2 (List.length x.1)) then
 bif ((getAt ((0:Int),(0:Int),(0:Int),(0:Int),(0:Int)) x.1 (toN x.2.1.2.2.2.2)).2.1 == (1:Int)) then
 bif (inb x.2.1.2.2.2.2 (List.length x.1)) then
 some (((getAt ((0:Int),(0:Int),(0:Int),(0:Int),(0:Int)) x.1 (toN x.2.1.2.2.2.2)).2.2.1 == x.2.1.1),x.2.2.1,x.2.2.2.1,x.2.2.2.2.1,x.2.2.2.2.2.1,x.2.2.2.2.2.2.1,x.2.2.2.2.2.2.2)
 else
 none
 else
 some (false,x.2.2.1,x.2.2.2.1,x.2.2.2.2.1,x.2.2.2.2.2.1,x.2.2.2.2.2.2.1,x.2.2.2.2.2.2.2)
 else
 none
 else
 some (false,x.2.2.1,x.2.2.2.1,x.2.2.2.2.1,x.2.2.2.2.2.1,x.2.2.2.2.2.2.1,x.2.2.2.2.2.2.2)
 else
 none
abbrev Zvd:=Spec.shp Zme Zqw Z7m
def Zfx:Ctx:=mC [] [] 54 7
theorem Z7n:Sound Tryz.prog 188 (Zvd) :=
 tS Zfx Tryz.f188 trivial
abbrev Zmh:Shape:=⟨sl_25,bl_33,ts_21,0⟩
abbrev Zqz:Shape:=⟨sl_2,bl_33,ts_21,7⟩
def Z7t (x:T27):Option T27 :=
 (Z7i (x.1,(2:Int),(7:Int))).bind fun r14 =>
 bif r14 then
 some ((((List.length x.2.1):Nat):Int),x.2.1,x.2.2.1,x.2.2.2.1,x.2.2.2.2.1,x.2.2.2.2.2.1,x.2.2.2.2.2.2)
 else
 (Z7i (x.1,(10:Int),(15:Int))).bind fun r15 =>
 bif r15 then
 some ((2:Int),x.2.1,x.2.2.1,x.2.2.2.1,x.2.2.2.2.1,x.2.2.2.2.2.1,x.2.2.2.2.2.2)
 else
 (Z7i (x.1,(8:Int),(17:Int))).bind fun r16 =>
 bif r16 then
 some ((4:Int),x.2.1,x.2.2.1,x.2.2.2.1,x.2.2.2.2.1,x.2.2.2.2.2.1,x.2.2.2.2.2.2)
 else
 some ((1:Int),x.2.1,x.2.2.1,x.2.2.2.1,x.2.2.2.2.1,x.2.2.2.2.2.1,x.2.2.2.2.2.2)
abbrev Zvg:=Spec.shp Zmh Zqz Z7t
def Zg0:Ctx:=mC [(88,[],Zvb)] [] 19 7
theorem Z7u:Sound Tryz.prog 189 (Zvg) :=
 tS Zg0 Tryz.f189 ⟨Z7j,trivial⟩
abbrev Zmd:Shape:=⟨sl_44,bl_33,ts_19,0⟩
abbrev Zqv:Shape:=⟨sl_1,bl_33,ts_20,7⟩
def Z7k (x:T38):Option T28 :=
 bif (Bool.not (@mhas (Int) (Int) (Ty.beq (.int .i64)) x.2.1.2.1 x.2.2.2.2.2.2.2)) then
 some ((x.2.1.2.2.2.2 == (Int.negSucc 0)),x.2.2.1,x.2.2.2.1,x.2.2.2.2.1,x.2.2.2.2.2.1,x.2.2.2.2.2.2.1,x.2.2.2.2.2.2.2)
 else
 bif (x.2.1.2.2.2.2 == (Int.negSucc 0)) then
 some (false,x.2.2.1,x.2.2.2.1,x.2.2.2.2.1,x.2.2.2.2.2.1,x.2.2.2.2.2.2.1,x.2.2.2.2.2.2.2)
 else
 bif (inb x.2.1.1 8) then
 bif (x.2.1.2.2.2.2 != (IntKind.wrap .i64 ((getAt (0:Int) x.2.2.2.1 (toN x.2.1.1)) - (1:Int)))) then
 some (false,x.2.2.1,x.2.2.2.1,x.2.2.2.2.1,x.2.2.2.2.2.1,x.2.2.2.2.2.2.1,x.2.2.2.2.2.2.2)
 else
 bif (inb x.2.1.2.2.2.2 (List.length x.1)) then
 bif ((getAt ((0:Int),(0:Int),(0:Int),(0:Int),(0:Int)) x.1 (toN x.2.1.2.2.2.2)).2.1 == (@mlook (Int) (Int) (Ty.beq (.int .i64)) (Ty.zero (.int .i64)) x.2.1.2.1 x.2.2.2.2.2.2.2)) then
 bif ((getAt ((0:Int),(0:Int),(0:Int),(0:Int),(0:Int)) x.1 (toN x.2.1.2.2.2.2)).2.2.1 == x.2.1.2.2.1) then
 some (true,x.2.2.1,x.2.2.2.1,x.2.2.2.2.1,x.2.2.2.2.2.1,x.2.2.2.2.2.2.1,x.2.2.2.2.2.2.2)
 else
 bif ((getAt ((0:Int),(0:Int),(0:Int),(0:Int),(0:Int)) x.1 (toN x.2.1.2.2.2.2)).2.1 == (8:Int)) then
 some ((decide (x.2.1.2.1 ≤ (6:Int))),x.2.2.1,x.2.2.2.1,x.2.2.2.2.1,x.2.2.2.2.2.1,x.2.2.2.2.2.2.1,x.2.2.2.2.2.2.2)
 else
 some (false,x.2.2.1,x.2.2.2.1,x.2.2.2.2.1,x.2.2.2.2.2.1,x.2.2.2.2.2.2.1,x.2.2.2.2.2.2.2)
 else
 bif ((getAt ((0:Int),(0:Int),(0:Int),(0:Int),(0:Int)) x.1 (toN x.2.1.2.2.2.2)).2.1 == (8:Int)) then
 some ((decide (x.2.1.2.1 ≤ (6:Int))),x.2.2.1,x.2.2.2.1,x.2.2.2.2.1,x.2.2.2.2.2.1,x.2.2.2.2.2.2.1,x.2.2.2.2.2.2.2)
 else
 some (false,x.2.2.1,x.2.2.2.1,x.2.2.2.2.1,x.2.2.2.2.2.1,x.2.2.2.2.2.2.1,x.2.2.2.2.2.2.2)
 else
 none
 else
 none
abbrev Zvc:=Spec.shp Zmd Zqv Z7k
def Zfw:Ctx:=mC [] [] 67 7
theorem Z7l:Sound Tryz.prog 190 (Zvc) :=
 tS Zfw Tryz.f190 trivial
abbrev Zmn:Shape:=⟨sl_45,bl_34,ts_22,0⟩
abbrev Zr5:Shape:=⟨sl_1,bl_34,ts_20,7⟩
def Z84 (x:T37):Option T28 :=
 some ((x.1.2.2.1 == x.2.2.2.1),x.2.1,x.2.2.1,x.2.2.2.1,x.2.2.2.2.1,x.2.2.2.2.2.1,x.2.2.2.2.2.2)
abbrev Zvm:=Spec.shp Zmn Zr5 Z84
def Zg6:Ctx:=mC [] [] 11 7
theorem Z85:Sound Tryz.prog 143 (Zvm) :=
 tS Zg6 Tryz.f143 trivial
theorem Z86:Sound Tryz.prog 143 (Spec.shpR Zmn Zr5 Z84) :=
 Sound.shpR (fun x y h=>by have h:=Option.some.inj h; subst h; rfl) Z85
abbrev Zmi:Shape:=⟨[(0,(.ptr 0 [])),(1,(.hole y24))],bl_33,ts_22,0⟩
abbrev Zr0:Shape:=⟨sl_1,bl_33,ts_20,7⟩
def Z7v (x:T37):Option T28 :=
 bif (inb x.1.2.2.1 (List.length x.2.1)) then
 some ((decide ((getAt (0:Int) x.2.1 (toN x.1.2.2.1)) ≥ (0:Int))),x.2.1,x.2.2.1,x.2.2.2.1,x.2.2.2.2.1,x.2.2.2.2.2.1,x.2.2.2.2.2.2)
 else
 none
abbrev Zvh:=Spec.shp Zmi Zr0 Z7v
def Zg1:Ctx:=mC [] [] 14 7
theorem Z7w:Sound Tryz.prog 145 (Zvh) :=
 tS Zg1 Tryz.f145 trivial
abbrev Zmg:Shape:=⟨[(0,(.ptr 0 [])),(1,(.hole (.int .i64))),(2,(.hole y24))],bl_33,[(.int .i64),y24,y0,y1,(.int .i64),(.slice y8),(.slice y4),(.slice y4)],0⟩
abbrev Zqy:Shape:=⟨sl_2,bl_33,ts_21,7⟩
def Z7q (x:(Int × T20 × List Int × List Int × Int × List (T8) × List (Int × Int) × List (Int × Int))):Option T27 :=
 some ((@mlook (Int × Int) (Int) (Ty.beq y4) (Ty.zero (.int .i64)) (x.1,x.2.1.2.2.1) x.2.2.2.2.2.1),x.2.2.1,x.2.2.2.1,x.2.2.2.2.1,x.2.2.2.2.2.1,x.2.2.2.2.2.2.1,x.2.2.2.2.2.2.2)
abbrev Zvf:=Spec.shp Zmg Zqy Z7q
def Zfz:Ctx:=mC [] [] 16 7
theorem Z7r:Sound Tryz.prog 142 (Zvf) :=
 tS Zfz Tryz.f142 trivial
theorem Z7s:Sound Tryz.prog 142 (Spec.shpR Zmg Zqy Z7q) :=
 Sound.shpR (fun x y h=>by have h:=Option.some.inj h; subst h; rfl) Z7r
abbrev Zmo:Shape:=⟨sl_45,bl_34,ts_22,0⟩
abbrev Zr6:Shape:=⟨sl_1,bl_34,ts_20,7⟩
def Z87 (x:T37):Option T28 :=
 (Z7v (x.1,x.2.1,x.2.2.1,x.2.2.2.1,x.2.2.2.2.1,x.2.2.2.2.2.1,x.2.2.2.2.2.2)).bind fun r17 =>
 bif r17.1 then
 (Z7q ((7:Int),x.1,r17.2.1,r17.2.2.1,r17.2.2.2.1,r17.2.2.2.2.1,r17.2.2.2.2.2.1,r17.2.2.2.2.2.2)).bind fun r18 =>
 bif (r18.1 == (0:Int)) then
 (Z7q ((3:Int),x.1,r17.2.1,r17.2.2.1,r17.2.2.2.1,r17.2.2.2.2.1,r17.2.2.2.2.2.1,r17.2.2.2.2.2.2)).bind fun r19 =>
 bif (x.1.2.2.2.1 == r19.1) then
 (Z7q ((5:Int),x.1,r17.2.1,r17.2.2.1,r17.2.2.2.1,r17.2.2.2.2.1,r17.2.2.2.2.2.1,r17.2.2.2.2.2.2)).bind fun r20 =>
 bif (inb x.1.2.2.1 (List.length r17.2.1)) then
 some ((decide (x.1.2.2.2.1 ≤ (IntKind.wrap .i64 (r20.1+(getAt (0:Int) r17.2.1 (toN x.1.2.2.1)))))),r17.2.1,r17.2.2.1,r17.2.2.2.1,r17.2.2.2.2.1,r17.2.2.2.2.2.1,r17.2.2.2.2.2.2)
 else
 none
 else
 some (false,r17.2.1,r17.2.2.1,r17.2.2.2.1,r17.2.2.2.2.1,r17.2.2.2.2.2.1,r17.2.2.2.2.2.2)
 else
 some (false,r17.2.1,r17.2.2.1,r17.2.2.2.1,r17.2.2.2.2.1,r17.2.2.2.2.2.1,r17.2.2.2.2.2.2)
 else
 some (false,r17.2.1,r17.2.2.1,r17.2.2.2.1,r17.2.2.2.2.1,r17.2.2.2.2.2.1,r17.2.2.2.2.2.2)
abbrev Zvn:=Spec.shp Zmo Zr6 Z87
def Zg7:Ctx:=mC [(145,[],Spec.thin (Zvh)),(142,[],Spec.shpR Zmg Zqy Z7q)] [] 38 7
theorem Z88:Sound Tryz.prog 144 (Zvn) :=
 tS Zg7 Tryz.f144 ⟨Z7w.thin,Z7s,trivial⟩
abbrev Zmp:Shape:=⟨sl_45,bl_34,ts_22,0⟩
abbrev Zr7:Shape:=⟨sl_1,bl_34,ts_20,7⟩
def Z89 (x:T37):Option T28 :=
 (Z7v (x.1,x.2.1,x.2.2.1,x.2.2.2.1,x.2.2.2.2.1,x.2.2.2.2.2.1,x.2.2.2.2.2.2)).bind fun r17 =>
 bif r17.1 then
 (Z7q ((5:Int),x.1,r17.2.1,r17.2.2.1,r17.2.2.2.1,r17.2.2.2.2.1,r17.2.2.2.2.2.1,r17.2.2.2.2.2.2)).bind fun r18 =>
 bif (x.1.2.2.2.1 == r18.1) then
 (Z7q ((3:Int),x.1,r17.2.1,r17.2.2.1,r17.2.2.2.1,r17.2.2.2.2.1,r17.2.2.2.2.2.1,r17.2.2.2.2.2.2)).bind fun r19 =>
 some ((decide (x.1.2.2.2.1 ≤ r19.1)),r17.2.1,r17.2.2.1,r17.2.2.2.1,r17.2.2.2.2.1,r17.2.2.2.2.2.1,r17.2.2.2.2.2.2)
 else
 some (false,r17.2.1,r17.2.2.1,r17.2.2.2.1,r17.2.2.2.2.1,r17.2.2.2.2.2.1,r17.2.2.2.2.2.2)
 else
 some (false,r17.2.1,r17.2.2.1,r17.2.2.2.1,r17.2.2.2.2.1,r17.2.2.2.2.2.1,r17.2.2.2.2.2.2)
abbrev Zvo:=Spec.shp Zmp Zr7 Z89
def Zg8:Ctx:=mC [(145,[],Spec.thin (Zvh)),(142,[],Spec.shpR Zmg Zqy Z7q)] [] 23 7
theorem Z8a:Sound Tryz.prog 146 (Zvo) :=
 tS Zg8 Tryz.f146 ⟨Z7w.thin,Z7s,trivial⟩
abbrev Zmq:Shape:=⟨sl_45,bl_34,ts_22,0⟩
abbrev Zr8:Shape:=⟨sl_1,bl_34,ts_20,7⟩
def Z8b (x:T37):Option T28 :=
 (Z7q ((7:Int),x.1,x.2.1,x.2.2.1,x.2.2.2.1,x.2.2.2.2.1,x.2.2.2.2.2.1,x.2.2.2.2.2.2)).bind fun r17 =>
 bif (decide (r17.1 > (0:Int))) then
 (Z7q ((5:Int),x.1,x.2.1,x.2.2.1,x.2.2.2.1,x.2.2.2.2.1,x.2.2.2.2.2.1,x.2.2.2.2.2.2)).bind fun r18 =>
 (Z7q ((3:Int),x.1,x.2.1,x.2.2.1,x.2.2.2.1,x.2.2.2.2.1,x.2.2.2.2.2.1,x.2.2.2.2.2.2)).bind fun r19 =>
 some ((r18.1 == r19.1),x.2.1,x.2.2.1,x.2.2.2.1,x.2.2.2.2.1,x.2.2.2.2.2.1,x.2.2.2.2.2.2)
 else
 some (false,x.2.1,x.2.2.1,x.2.2.2.1,x.2.2.2.2.1,x.2.2.2.2.2.1,x.2.2.2.2.2.2)
abbrev Zvp:=Spec.shp Zmq Zr8 Z8b
def Zg9:Ctx:=mC [(142,[],Spec.shpR Zmg Zqy Z7q)] [] 17 7
theorem Z8c:Sound Tryz.prog 147 (Zvp) :=
 tS Zg9 Tryz.f147 ⟨Z7s,trivial⟩
abbrev Zmr:Shape:=⟨sl_45,bl_34,ts_22,0⟩
abbrev Zr9:Shape:=⟨sl_1,bl_34,ts_20,7⟩
def Z8d (x:T37):Option T28 :=
 (Z7v (x.1,x.2.1,x.2.2.1,x.2.2.2.1,x.2.2.2.2.1,x.2.2.2.2.2.1,x.2.2.2.2.2.2)).bind fun r17 =>
 bif r17.1 then
 (Z7q ((7:Int),x.1,r17.2.1,r17.2.2.1,r17.2.2.2.1,r17.2.2.2.2.1,r17.2.2.2.2.2.1,r17.2.2.2.2.2.2)).bind fun r18 =>
 some ((r18.1 == (0:Int)),r17.2.1,r17.2.2.1,r17.2.2.2.1,r17.2.2.2.2.1,r17.2.2.2.2.2.1,r17.2.2.2.2.2.2)
 else
 some (false,r17.2.1,r17.2.2.1,r17.2.2.2.1,r17.2.2.2.2.1,r17.2.2.2.2.2.1,r17.2.2.2.2.2.2)
abbrev Zvq:=Spec.shp Zmr Zr9 Z8d
def Zga:Ctx:=mC [(145,[],Spec.thin (Zvh)),(142,[],Spec.shpR Zmg Zqy Z7q)] [] 13 7
theorem Z8e:Sound Tryz.prog 148 (Zvq) :=
 tS Zga Tryz.f148 ⟨Z7w.thin,Z7s,trivial⟩
abbrev Zml:Shape:=⟨sl_45,bl_34,ts_22,0⟩
abbrev Zr3:Shape:=⟨sl_2,bl_34,ts_21,7⟩
def Z80 (x:T37):Option T27 :=
 (Z7q ((11:Int),x.1,x.2.1,x.2.2.1,x.2.2.2.1,x.2.2.2.2.1,x.2.2.2.2.2.1,x.2.2.2.2.2.2)).bind fun r18 =>
 (Z7q ((12:Int),x.1,x.2.1,x.2.2.1,x.2.2.2.1,x.2.2.2.2.1,x.2.2.2.2.2.1,x.2.2.2.2.2.2)).bind fun r19 =>
 some ((IntKind.wrap .i64 (r18.1 - r19.1)),x.2.1,x.2.2.1,x.2.2.2.1,x.2.2.2.2.1,x.2.2.2.2.2.1,x.2.2.2.2.2.2)
abbrev Zvk:=Spec.shp Zml Zr3 Z80
def Zg4:Ctx:=mC [(142,[],Spec.shpR Zmg Zqy Z7q)] [] 11 7
theorem Z83:Sound Tryz.prog 141 (Zvk) :=
 tS Zg4 Tryz.f141 ⟨Z7s,trivial⟩
abbrev Zms:Shape:=⟨sl_45,bl_35,ts_22,0⟩
abbrev Zra:Shape:=⟨sl_1,bl_35,ts_20,7⟩
def Z8f (x:T37):Option T28 :=
 (Z80 (x.1,x.2.1,x.2.2.1,x.2.2.2.1,x.2.2.2.2.1,x.2.2.2.2.2.1,x.2.2.2.2.2.2)).bind fun r17 =>
 some ((r17.1 == (0:Int)),r17.2.1,r17.2.2.1,r17.2.2.2.1,r17.2.2.2.2.1,r17.2.2.2.2.2.1,r17.2.2.2.2.2.2)
abbrev Zvr:=Spec.shp Zms Zra Z8f
def Zgb:Ctx:=mC [(141,[],Spec.thin (Zvk))] [] 8 7
theorem Z8g:Sound Tryz.prog 149 (Zvr) :=
 tS Zgb Tryz.f149 ⟨Z83.thin,trivial⟩
abbrev Zmt:Shape:=⟨sl_45,bl_35,ts_22,0⟩
abbrev Zrb:Shape:=⟨sl_1,bl_35,ts_20,7⟩
def Z8h (x:T37):Option T28 :=
 (Z80 (x.1,x.2.1,x.2.2.1,x.2.2.2.1,x.2.2.2.2.1,x.2.2.2.2.2.1,x.2.2.2.2.2.2)).bind fun r17 =>
 some ((r17.1 == (1:Int)),r17.2.1,r17.2.2.1,r17.2.2.2.1,r17.2.2.2.2.1,r17.2.2.2.2.2.1,r17.2.2.2.2.2.2)
abbrev Zvs:=Spec.shp Zmt Zrb Z8h
def Zgc:Ctx:=mC [(141,[],Spec.thin (Zvk))] [] 8 7
theorem Z8i:Sound Tryz.prog 150 (Zvs) :=
 tS Zgc Tryz.f150 ⟨Z83.thin,trivial⟩
abbrev Zmu:Shape:=⟨sl_45,bl_34,ts_22,0⟩
abbrev Zrc:Shape:=⟨sl_1,bl_34,ts_20,7⟩
def Z8j (x:T37):Option T28 :=
 (Z7q ((14:Int),x.1,x.2.1,x.2.2.1,x.2.2.2.1,x.2.2.2.2.1,x.2.2.2.2.2.1,x.2.2.2.2.2.2)).bind fun r17 =>
 bif (r17.1 == (0:Int)) then
 some (((@mlook (Int) (Int) (Ty.beq (.int .i64)) (Ty.zero (.int .i64)) x.1.2.2.1 x.2.2.2.2.2.1) == (IntKind.wrap .i64 (x.1.1+(1:Int)))),x.2.1,x.2.2.1,x.2.2.2.1,x.2.2.2.2.1,x.2.2.2.2.2.1,x.2.2.2.2.2.2)
 else
 some (false,x.2.1,x.2.2.1,x.2.2.2.1,x.2.2.2.2.1,x.2.2.2.2.2.1,x.2.2.2.2.2.2)
abbrev Zvt:=Spec.shp Zmu Zrc Z8j
def Zgd:Ctx:=mC [(142,[],Spec.shpR Zmg Zqy Z7q)] [] 21 7
theorem Z8k:Sound Tryz.prog 151 (Zvt) :=
 tS Zgd Tryz.f151 ⟨Z7s,trivial⟩
abbrev Zmm:Shape:=⟨sl_45,bl_34,ts_22,0⟩
abbrev Zr4:Shape:=⟨sl_1,bl_34,ts_20,7⟩
def Z81 (x:T37):Option T28 :=
 (Z7q ((14:Int),x.1,x.2.1,x.2.2.1,x.2.2.2.1,x.2.2.2.2.1,x.2.2.2.2.2.1,x.2.2.2.2.2.2)).bind fun r17 =>
 some ((decide (r17.1 > (0:Int))),x.2.1,x.2.2.1,x.2.2.2.1,x.2.2.2.2.1,x.2.2.2.2.2.1,x.2.2.2.2.2.2)
abbrev Zvl:=Spec.shp Zmm Zr4 Z81
def Zg5:Ctx:=mC [(142,[],Spec.shpR Zmg Zqy Z7q)] [] 8 7
theorem Z82:Sound Tryz.prog 152 (Zvl) :=
 tS Zg5 Tryz.f152 ⟨Z7s,trivial⟩
abbrev Zmj:Shape:=⟨sl_44,bl_33,ts_19,0⟩
abbrev Zr1:Shape:=⟨sl_1,bl_33,ts_20,7⟩
def Z7x (x:T38):Option T28 :=
 (Z7i (x.2.1.1,(0:Int),(7:Int))).bind fun r10 =>
 bif (Bool.not r10) then
 some (false,x.2.2.1,x.2.2.2.1,x.2.2.2.2.1,x.2.2.2.2.2.1,x.2.2.2.2.2.2.1,x.2.2.2.2.2.2.2)
 else
 (Z7i (x.2.1.2.1,(0:Int),(17:Int))).bind fun r11 =>
 bif (Bool.not r11) then
 some (false,x.2.2.1,x.2.2.2.1,x.2.2.2.2.1,x.2.2.2.2.2.1,x.2.2.2.2.2.2.1,x.2.2.2.2.2.2.2)
 else
 bif (decide (x.2.1.2.2.2.1 < (0:Int))) then
 some (false,x.2.2.1,x.2.2.2.1,x.2.2.2.2.1,x.2.2.2.2.2.1,x.2.2.2.2.2.2.1,x.2.2.2.2.2.2.2)
 else
 (Z7i (x.2.1.2.2.2.2,(Int.negSucc 0),(IntKind.wrap .i64 ((((List.length x.1):Nat):Int) - (1:Int))))).bind fun r12 =>
 bif (Bool.not r12) then
 some (false,x.2.2.1,x.2.2.2.1,x.2.2.2.2.1,x.2.2.2.2.2.1,x.2.2.2.2.2.2.1,x.2.2.2.2.2.2.2)
 else
 bif (x.2.1.2.1 == (0:Int)) then
 (Z7m (x.1,x.2.1,x.2.2.1,x.2.2.2.1,x.2.2.2.2.1,x.2.2.2.2.2.1,x.2.2.2.2.2.2.1,x.2.2.2.2.2.2.2)).bind fun r13 =>
 some (r13.1,r13.2.1,r13.2.2.1,r13.2.2.2.1,r13.2.2.2.2.1,r13.2.2.2.2.2.1,r13.2.2.2.2.2.2)
 else
 bif (x.2.1.2.1 == (3:Int)) then
 bif (inb x.2.1.1 8) then
 bif ((getAt (0:Int) x.2.2.2.1 (toN x.2.1.1)) == (0:Int)) then
 some (false,x.2.2.1,x.2.2.2.1,x.2.2.2.2.1,x.2.2.2.2.2.1,x.2.2.2.2.2.2.1,x.2.2.2.2.2.2.2)
 else
 bif (x.2.1.2.1 != (1:Int)) then
 (Z7t (x.2.1.2.1,x.2.2.1,x.2.2.2.1,x.2.2.2.2.1,x.2.2.2.2.2.1,x.2.2.2.2.2.2.1,x.2.2.2.2.2.2.2)).bind fun r13 =>
 (Z7i (x.2.1.2.2.1,(0:Int),(IntKind.wrap .i64 (r13.1 - (1:Int))))).bind fun r14 =>
 bif (Bool.not r14) then
 some (false,r13.2.1,r13.2.2.1,r13.2.2.2.1,r13.2.2.2.2.1,r13.2.2.2.2.2.1,r13.2.2.2.2.2.2)
 else
 (Z7k (x.1,x.2.1,r13.2.1,r13.2.2.1,r13.2.2.2.1,r13.2.2.2.2.1,r13.2.2.2.2.2.1,r13.2.2.2.2.2.2)).bind fun r15 =>
 bif (Bool.not r15.1) then
 some (false,r15.2.1,r15.2.2.1,r15.2.2.2.1,r15.2.2.2.2.1,r15.2.2.2.2.2.1,r15.2.2.2.2.2.2)
 else
 bif (eqI x.2.1.2.1 (1:Int)) then
 (Z84 (x.2.1,r15.2.1,r15.2.2.1,r15.2.2.2.1,r15.2.2.2.2.1,r15.2.2.2.2.2.1,r15.2.2.2.2.2.2)).bind fun r16 =>
 some (r16.1,r15.2.1,r15.2.2.1,r15.2.2.2.1,r15.2.2.2.2.1,r15.2.2.2.2.2.1,r15.2.2.2.2.2.2)
 else
 bif (eqI x.2.1.2.1 (3:Int)) then
 (Z87 (x.2.1,r15.2.1,r15.2.2.1,r15.2.2.2.1,r15.2.2.2.2.1,r15.2.2.2.2.2.1,r15.2.2.2.2.2.2)).bind fun r16 =>
 some (r16.1,r16.2.1,r16.2.2.1,r16.2.2.2.1,r16.2.2.2.2.1,r16.2.2.2.2.2.1,r16.2.2.2.2.2.2)
 else
 bif (eqI x.2.1.2.1 (5:Int)) then
 (Z89 (x.2.1,r15.2.1,r15.2.2.1,r15.2.2.2.1,r15.2.2.2.2.1,r15.2.2.2.2.2.1,r15.2.2.2.2.2.2)).bind fun r16 =>
 some (r16.1,r16.2.1,r16.2.2.1,r16.2.2.2.1,r16.2.2.2.2.1,r16.2.2.2.2.2.1,r16.2.2.2.2.2.2)
 else
 bif (eqI x.2.1.2.1 (6:Int)) then
 (Z8b (x.2.1,r15.2.1,r15.2.2.1,r15.2.2.2.1,r15.2.2.2.2.1,r15.2.2.2.2.2.1,r15.2.2.2.2.2.2)).bind fun r16 =>
 some (r16.1,r16.2.1,r16.2.2.1,r16.2.2.2.1,r16.2.2.2.2.1,r16.2.2.2.2.2.1,r16.2.2.2.2.2.2)
 else
 bif (eqI x.2.1.2.1 (7:Int)) then
 (Z8d (x.2.1,r15.2.1,r15.2.2.1,r15.2.2.2.1,r15.2.2.2.2.1,r15.2.2.2.2.2.1,r15.2.2.2.2.2.2)).bind fun r16 =>
 some (r16.1,r16.2.1,r16.2.2.1,r16.2.2.2.1,r16.2.2.2.2.1,r16.2.2.2.2.2.1,r16.2.2.2.2.2.2)
 else
 bif (eqI x.2.1.2.1 (11:Int)) then
 (Z8f (x.2.1,r15.2.1,r15.2.2.1,r15.2.2.2.1,r15.2.2.2.2.1,r15.2.2.2.2.2.1,r15.2.2.2.2.2.2)).bind fun r16 =>
 some (r16.1,r16.2.1,r16.2.2.1,r16.2.2.2.1,r16.2.2.2.2.1,r16.2.2.2.2.2.1,r16.2.2.2.2.2.2)
 else
 bif (eqI x.2.1.2.1 (12:Int)) then
 (Z8h (x.2.1,r15.2.1,r15.2.2.1,r15.2.2.2.1,r15.2.2.2.2.1,r15.2.2.2.2.2.1,r15.2.2.2.2.2.2)).bind fun r16 =>
 some (r16.1,r16.2.1,r16.2.2.1,r16.2.2.2.1,r16.2.2.2.2.1,r16.2.2.2.2.2.1,r16.2.2.2.2.2.2)
 else
 bif (eqI x.2.1.2.1 (14:Int)) then
 (Z8j (x.2.1,r15.2.1,r15.2.2.1,r15.2.2.2.1,r15.2.2.2.2.1,r15.2.2.2.2.2.1,r15.2.2.2.2.2.2)).bind fun r16 =>
 some (r16.1,r16.2.1,r16.2.2.1,r16.2.2.2.1,r16.2.2.2.2.1,r16.2.2.2.2.2.1,r16.2.2.2.2.2.2)
 else
 bif (eqI x.2.1.2.1 (15:Int)) then
 (Z81 (x.2.1,r15.2.1,r15.2.2.1,r15.2.2.2.1,r15.2.2.2.2.1,r15.2.2.2.2.2.1,r15.2.2.2.2.2.2)).bind fun r16 =>
 some (r16.1,r16.2.1,r16.2.2.1,r16.2.2.2.1,r16.2.2.2.2.1,r16.2.2.2.2.2.1,r16.2.2.2.2.2.2)
 else
 some (true,r15.2.1,r15.2.2.1,r15.2.2.2.1,r15.2.2.2.2.1,r15.2.2.2.2.2.1,r15.2.2.2.2.2.2)
 else
 (Z7k (x.1,x.2.1,x.2.2.1,x.2.2.2.1,x.2.2.2.2.1,x.2.2.2.2.2.1,x.2.2.2.2.2.2.1,x.2.2.2.2.2.2.2)).bind fun r13 =>
 bif (Bool.not r13.1) then
 some (false,r13.2.1,r13.2.2.1,r13.2.2.2.1,r13.2.2.2.2.1,r13.2.2.2.2.2.1,r13.2.2.2.2.2.2)
 else
 bif (eqI x.2.1.2.1 (1:Int)) then
 (Z84 (x.2.1,r13.2.1,r13.2.2.1,r13.2.2.2.1,r13.2.2.2.2.1,r13.2.2.2.2.2.1,r13.2.2.2.2.2.2)).bind fun r14 =>
 some (r14.1,r13.2.1,r13.2.2.1,r13.2.2.2.1,r13.2.2.2.2.1,r13.2.2.2.2.2.1,r13.2.2.2.2.2.2)
 else
 bif (eqI x.2.1.2.1 (3:Int)) then
 (Z87 (x.2.1,r13.2.1,r13.2.2.1,r13.2.2.2.1,r13.2.2.2.2.1,r13.2.2.2.2.2.1,r13.2.2.2.2.2.2)).bind fun r14 =>
 some (r14.1,r14.2.1,r14.2.2.1,r14.2.2.2.1,r14.2.2.2.2.1,r14.2.2.2.2.2.1,r14.2.2.2.2.2.2)
 else
 bif (eqI x.2.1.2.1 (5:Int)) then
 (Z89 (x.2.1,r13.2.1,r13.2.2.1,r13.2.2.2.1,r13.2.2.2.2.1,r13.2.2.2.2.2.1,r13.2.2.2.2.2.2)).bind fun r14 =>
 some (r14.1,r14.2.1,r14.2.2.1,r14.2.2.2.1,r14.2.2.2.2.1,r14.2.2.2.2.2.1,r14.2.2.2.2.2.2)
 else
 bif (eqI x.2.1.2.1 (6:Int)) then
 (Z8b (x.2.1,r13.2.1,r13.2.2.1,r13.2.2.2.1,r13.2.2.2.2.1,r13.2.2.2.2.2.1,r13.2.2.2.2.2.2)).bind fun r14 =>
 some (r14.1,r14.2.1,r14.2.2.1,r14.2.2.2.1,r14.2.2.2.2.1,r14.2.2.2.2.2.1,r14.2.2.2.2.2.2)
 else
 bif (eqI x.2.1.2.1 (7:Int)) then
 (Z8d (x.2.1,r13.2.1,r13.2.2.1,r13.2.2.2.1,r13.2.2.2.2.1,r13.2.2.2.2.2.1,r13.2.2.2.2.2.2)).bind fun r14 =>
 some (r14.1,r14.2.1,r14.2.2.1,r14.2.2.2.1,r14.2.2.2.2.1,r14.2.2.2.2.2.1,r14.2.2.2.2.2.2)
 else
 bif (eqI x.2.1.2.1 (11:Int)) then
 (Z8f (x.2.1,r13.2.1,r13.2.2.1,r13.2.2.2.1,r13.2.2.2.2.1,r13.2.2.2.2.2.1,r13.2.2.2.2.2.2)).bind fun r14 =>
 some (r14.1,r14.2.1,r14.2.2.1,r14.2.2.2.1,r14.2.2.2.2.1,r14.2.2.2.2.2.1,r14.2.2.2.2.2.2)
 else
 bif (eqI x.2.1.2.1 (12:Int)) then
 (Z8h (x.2.1,r13.2.1,r13.2.2.1,r13.2.2.2.1,r13.2.2.2.2.1,r13.2.2.2.2.2.1,r13.2.2.2.2.2.2)).bind fun r14 =>
 some (r14.1,r14.2.1,r14.2.2.1,r14.2.2.2.1,r14.2.2.2.2.1,r14.2.2.2.2.2.1,r14.2.2.2.2.2.2)
 else
 bif (eqI x.2.1.2.1 (14:Int)) then
 (Z8j (x.2.1,r13.2.1,r13.2.2.1,r13.2.2.2.1,r13.2.2.2.2.1,r13.2.2.2.2.2.1,r13.2.2.2.2.2.2)).bind fun r14 =>
 some (r14.1,r14.2.1,r14.2.2.1,r14.2.2.2.1,r14.2.2.2.2.1,r14.2.2.2.2.2.1,r14.2.2.2.2.2.2)
 else
 bif (eqI x.2.1.2.1 (15:Int)) then
 (Z81 (x.2.1,r13.2.1,r13.2.2.1,r13.2.2.2.1,r13.2.2.2.2.1,r13.2.2.2.2.2.1,r13.2.2.2.2.2.2)).bind fun r14 =>
 some (r14.1,r14.2.1,r14.2.2.1,r14.2.2.2.1,r14.2.2.2.2.1,r14.2.2.2.2.2.1,r14.2.2.2.2.2.2)
 else
 some (true,r13.2.1,r13.2.2.1,r13.2.2.2.1,r13.2.2.2.2.1,r13.2.2.2.2.2.1,r13.2.2.2.2.2.2)
 else
 none
 else
 bif (inb x.2.1.1 8) then
 bif ((getAt (0:Int) x.2.2.2.1 (toN x.2.1.1)) == (0:Int)) then
 some (false,x.2.2.1,x.2.2.2.1,x.2.2.2.2.1,x.2.2.2.2.2.1,x.2.2.2.2.2.2.1,x.2.2.2.2.2.2.2)
 else
 bif (Bool.not (x.2.1.2.1 == (5:Int))) then
 bif (x.2.1.2.2.2.1 != (0:Int)) then
 some (false,x.2.2.1,x.2.2.2.1,x.2.2.2.2.1,x.2.2.2.2.2.1,x.2.2.2.2.2.2.1,x.2.2.2.2.2.2.2)
 else
 bif (x.2.1.2.1 != (1:Int)) then
 (Z7t (x.2.1.2.1,x.2.2.1,x.2.2.2.1,x.2.2.2.2.1,x.2.2.2.2.2.1,x.2.2.2.2.2.2.1,x.2.2.2.2.2.2.2)).bind fun r13 =>
 (Z7i (x.2.1.2.2.1,(0:Int),(IntKind.wrap .i64 (r13.1 - (1:Int))))).bind fun r14 =>
 bif (Bool.not r14) then
 some (false,r13.2.1,r13.2.2.1,r13.2.2.2.1,r13.2.2.2.2.1,r13.2.2.2.2.2.1,r13.2.2.2.2.2.2)
 else
 (Z7k (x.1,x.2.1,r13.2.1,r13.2.2.1,r13.2.2.2.1,r13.2.2.2.2.1,r13.2.2.2.2.2.1,r13.2.2.2.2.2.2)).bind fun r15 =>
 bif (Bool.not r15.1) then
 some (false,r15.2.1,r15.2.2.1,r15.2.2.2.1,r15.2.2.2.2.1,r15.2.2.2.2.2.1,r15.2.2.2.2.2.2)
 else
 bif (eqI x.2.1.2.1 (1:Int)) then
 (Z84 (x.2.1,r15.2.1,r15.2.2.1,r15.2.2.2.1,r15.2.2.2.2.1,r15.2.2.2.2.2.1,r15.2.2.2.2.2.2)).bind fun r16 =>
 some (r16.1,r15.2.1,r15.2.2.1,r15.2.2.2.1,r15.2.2.2.2.1,r15.2.2.2.2.2.1,r15.2.2.2.2.2.2)
 else
 bif (eqI x.2.1.2.1 (3:Int)) then
 (Z87 (x.2.1,r15.2.1,r15.2.2.1,r15.2.2.2.1,r15.2.2.2.2.1,r15.2.2.2.2.2.1,r15.2.2.2.2.2.2)).bind fun r16 =>
 some (r16.1,r16.2.1,r16.2.2.1,r16.2.2.2.1,r16.2.2.2.2.1,r16.2.2.2.2.2.1,r16.2.2.2.2.2.2)
 else
 bif (eqI x.2.1.2.1 (5:Int)) then
 (Z89 (x.2.1,r15.2.1,r15.2.2.1,r15.2.2.2.1,r15.2.2.2.2.1,r15.2.2.2.2.2.1,r15.2.2.2.2.2.2)).bind fun r16 =>
 some (r16.1,r16.2.1,r16.2.2.1,r16.2.2.2.1,r16.2.2.2.2.1,r16.2.2.2.2.2.1,r16.2.2.2.2.2.2)
 else
 bif (eqI x.2.1.2.1 (6:Int)) then
 (Z8b (x.2.1,r15.2.1,r15.2.2.1,r15.2.2.2.1,r15.2.2.2.2.1,r15.2.2.2.2.2.1,r15.2.2.2.2.2.2)).bind fun r16 =>
 some (r16.1,r16.2.1,r16.2.2.1,r16.2.2.2.1,r16.2.2.2.2.1,r16.2.2.2.2.2.1,r16.2.2.2.2.2.2)
 else
 bif (eqI x.2.1.2.1 (7:Int)) then
 (Z8d (x.2.1,r15.2.1,r15.2.2.1,r15.2.2.2.1,r15.2.2.2.2.1,r15.2.2.2.2.2.1,r15.2.2.2.2.2.2)).bind fun r16 =>
 some (r16.1,r16.2.1,r16.2.2.1,r16.2.2.2.1,r16.2.2.2.2.1,r16.2.2.2.2.2.1,r16.2.2.2.2.2.2)
 else
 bif (eqI x.2.1.2.1 (11:Int)) then
 (Z8f (x.2.1,r15.2.1,r15.2.2.1,r15.2.2.2.1,r15.2.2.2.2.1,r15.2.2.2.2.2.1,r15.2.2.2.2.2.2)).bind fun r16 =>
 some (r16.1,r16.2.1,r16.2.2.1,r16.2.2.2.1,r16.2.2.2.2.1,r16.2.2.2.2.2.1,r16.2.2.2.2.2.2)
 else
 bif (eqI x.2.1.2.1 (12:Int)) then
 (Z8h (x.2.1,r15.2.1,r15.2.2.1,r15.2.2.2.1,r15.2.2.2.2.1,r15.2.2.2.2.2.1,r15.2.2.2.2.2.2)).bind fun r16 =>
 some (r16.1,r16.2.1,r16.2.2.1,r16.2.2.2.1,r16.2.2.2.2.1,r16.2.2.2.2.2.1,r16.2.2.2.2.2.2)
 else
 bif (eqI x.2.1.2.1 (14:Int)) then
 (Z8j (x.2.1,r15.2.1,r15.2.2.1,r15.2.2.2.1,r15.2.2.2.2.1,r15.2.2.2.2.2.1,r15.2.2.2.2.2.2)).bind fun r16 =>
 some (r16.1,r16.2.1,r16.2.2.1,r16.2.2.2.1,r16.2.2.2.2.1,r16.2.2.2.2.2.1,r16.2.2.2.2.2.2)
 else
 bif (eqI x.2.1.2.1 (15:Int)) then
 (Z81 (x.2.1,r15.2.1,r15.2.2.1,r15.2.2.2.1,r15.2.2.2.2.1,r15.2.2.2.2.2.1,r15.2.2.2.2.2.2)).bind fun r16 =>
 some (r16.1,r16.2.1,r16.2.2.1,r16.2.2.2.1,r16.2.2.2.2.1,r16.2.2.2.2.2.1,r16.2.2.2.2.2.2)
 else
 some (true,r15.2.1,r15.2.2.1,r15.2.2.2.1,r15.2.2.2.2.1,r15.2.2.2.2.2.1,r15.2.2.2.2.2.2)
 else
 (Z7k (x.1,x.2.1,x.2.2.1,x.2.2.2.1,x.2.2.2.2.1,x.2.2.2.2.2.1,x.2.2.2.2.2.2.1,x.2.2.2.2.2.2.2)).bind fun r13 =>
 bif (Bool.not r13.1) then
 some (false,r13.2.1,r13.2.2.1,r13.2.2.2.1,r13.2.2.2.2.1,r13.2.2.2.2.2.1,r13.2.2.2.2.2.2)
 else
 bif (eqI x.2.1.2.1 (1:Int)) then
 (Z84 (x.2.1,r13.2.1,r13.2.2.1,r13.2.2.2.1,r13.2.2.2.2.1,r13.2.2.2.2.2.1,r13.2.2.2.2.2.2)).bind fun r14 =>
 some (r14.1,r13.2.1,r13.2.2.1,r13.2.2.2.1,r13.2.2.2.2.1,r13.2.2.2.2.2.1,r13.2.2.2.2.2.2)
 else
 bif (eqI x.2.1.2.1 (3:Int)) then
 (Z87 (x.2.1,r13.2.1,r13.2.2.1,r13.2.2.2.1,r13.2.2.2.2.1,r13.2.2.2.2.2.1,r13.2.2.2.2.2.2)).bind fun r14 =>
 some (r14.1,r14.2.1,r14.2.2.1,r14.2.2.2.1,r14.2.2.2.2.1,r14.2.2.2.2.2.1,r14.2.2.2.2.2.2)
 else
 bif (eqI x.2.1.2.1 (5:Int)) then
 (Z89 (x.2.1,r13.2.1,r13.2.2.1,r13.2.2.2.1,r13.2.2.2.2.1,r13.2.2.2.2.2.1,r13.2.2.2.2.2.2)).bind fun r14 =>
 some (r14.1,r14.2.1,r14.2.2.1,r14.2.2.2.1,r14.2.2.2.2.1,r14.2.2.2.2.2.1,r14.2.2.2.2.2.2)
 else
 bif (eqI x.2.1.2.1 (6:Int)) then
 (Z8b (x.2.1,r13.2.1,r13.2.2.1,r13.2.2.2.1,r13.2.2.2.2.1,r13.2.2.2.2.2.1,r13.2.2.2.2.2.2)).bind fun r14 =>
 some (r14.1,r14.2.1,r14.2.2.1,r14.2.2.2.1,r14.2.2.2.2.1,r14.2.2.2.2.2.1,r14.2.2.2.2.2.2)
 else
 bif (eqI x.2.1.2.1 (7:Int)) then
 (Z8d (x.2.1,r13.2.1,r13.2.2.1,r13.2.2.2.1,r13.2.2.2.2.1,r13.2.2.2.2.2.1,r13.2.2.2.2.2.2)).bind fun r14 =>
 some (r14.1,r14.2.1,r14.2.2.1,r14.2.2.2.1,r14.2.2.2.2.1,r14.2.2.2.2.2.1,r14.2.2.2.2.2.2)
 else
 bif (eqI x.2.1.2.1 (11:Int)) then
 (Z8f (x.2.1,r13.2.1,r13.2.2.1,r13.2.2.2.1,r13.2.2.2.2.1,r13.2.2.2.2.2.1,r13.2.2.2.2.2.2)).bind fun r14 =>
 some (r14.1,r14.2.1,r14.2.2.1,r14.2.2.2.1,r14.2.2.2.2.1,r14.2.2.2.2.2.1,r14.2.2.2.2.2.2)
 else
 bif (eqI x.2.1.2.1 (12:Int)) then
 (Z8h (x.2.1,r13.2.1,r13.2.2.1,r13.2.2.2.1,r13.2.2.2.2.1,r13.2.2.2.2.2.1,r13.2.2.2.2.2.2)).bind fun r14 =>
 some (r14.1,r14.2.1,r14.2.2.1,r14.2.2.2.1,r14.2.2.2.2.1,r14.2.2.2.2.2.1,r14.2.2.2.2.2.2)
 else
 bif (eqI x.2.1.2.1 (14:Int)) then
 (Z8j (x.2.1,r13.2.1,r13.2.2.1,r13.2.2.2.1,r13.2.2.2.2.1,r13.2.2.2.2.2.1,r13.2.2.2.2.2.2)).bind fun r14 =>
 some (r14.1,r14.2.1,r14.2.2.1,r14.2.2.2.1,r14.2.2.2.2.1,r14.2.2.2.2.2.1,r14.2.2.2.2.2.2)
 else
 bif (eqI x.2.1.2.1 (15:Int)) then
 (Z81 (x.2.1,r13.2.1,r13.2.2.1,r13.2.2.2.1,r13.2.2.2.2.1,r13.2.2.2.2.2.1,r13.2.2.2.2.2.2)).bind fun r14 =>
 some (r14.1,r14.2.1,r14.2.2.1,r14.2.2.2.1,r14.2.2.2.2.1,r14.2.2.2.2.2.1,r14.2.2.2.2.2.2)
 else
 some (true,r13.2.1,r13.2.2.1,r13.2.2.2.1,r13.2.2.2.2.1,r13.2.2.2.2.2.1,r13.2.2.2.2.2.2)
 else
 bif (x.2.1.2.1 != (1:Int)) then
 (Z7t (x.2.1.2.1,x.2.2.1,x.2.2.2.1,x.2.2.2.2.1,x.2.2.2.2.2.1,x.2.2.2.2.2.2.1,x.2.2.2.2.2.2.2)).bind fun r13 =>
 (Z7i (x.2.1.2.2.1,(0:Int),(IntKind.wrap .i64 (r13.1 - (1:Int))))).bind fun r14 =>
 bif (Bool.not r14) then
 some (false,r13.2.1,r13.2.2.1,r13.2.2.2.1,r13.2.2.2.2.1,r13.2.2.2.2.2.1,r13.2.2.2.2.2.2)
 else
 (Z7k (x.1,x.2.1,r13.2.1,r13.2.2.1,r13.2.2.2.1,r13.2.2.2.2.1,r13.2.2.2.2.2.1,r13.2.2.2.2.2.2)).bind fun r15 =>
 bif (Bool.not r15.1) then
 some (false,r15.2.1,r15.2.2.1,r15.2.2.2.1,r15.2.2.2.2.1,r15.2.2.2.2.2.1,r15.2.2.2.2.2.2)
 else
 bif (eqI x.2.1.2.1 (1:Int)) then
 (Z84 (x.2.1,r15.2.1,r15.2.2.1,r15.2.2.2.1,r15.2.2.2.2.1,r15.2.2.2.2.2.1,r15.2.2.2.2.2.2)).bind fun r16 =>
 some (r16.1,r15.2.1,r15.2.2.1,r15.2.2.2.1,r15.2.2.2.2.1,r15.2.2.2.2.2.1,r15.2.2.2.2.2.2)
 else
 bif (eqI x.2.1.2.1 (3:Int)) then
 (Z87 (x.2.1,r15.2.1,r15.2.2.1,r15.2.2.2.1,r15.2.2.2.2.1,r15.2.2.2.2.2.1,r15.2.2.2.2.2.2)).bind fun r16 =>
 some (r16.1,r16.2.1,r16.2.2.1,r16.2.2.2.1,r16.2.2.2.2.1,r16.2.2.2.2.2.1,r16.2.2.2.2.2.2)
 else
 bif (eqI x.2.1.2.1 (5:Int)) then
 (Z89 (x.2.1,r15.2.1,r15.2.2.1,r15.2.2.2.1,r15.2.2.2.2.1,r15.2.2.2.2.2.1,r15.2.2.2.2.2.2)).bind fun r16 =>
 some (r16.1,r16.2.1,r16.2.2.1,r16.2.2.2.1,r16.2.2.2.2.1,r16.2.2.2.2.2.1,r16.2.2.2.2.2.2)
 else
 bif (eqI x.2.1.2.1 (6:Int)) then
 (Z8b (x.2.1,r15.2.1,r15.2.2.1,r15.2.2.2.1,r15.2.2.2.2.1,r15.2.2.2.2.2.1,r15.2.2.2.2.2.2)).bind fun r16 =>
 some (r16.1,r16.2.1,r16.2.2.1,r16.2.2.2.1,r16.2.2.2.2.1,r16.2.2.2.2.2.1,r16.2.2.2.2.2.2)
 else
 bif (eqI x.2.1.2.1 (7:Int)) then
 (Z8d (x.2.1,r15.2.1,r15.2.2.1,r15.2.2.2.1,r15.2.2.2.2.1,r15.2.2.2.2.2.1,r15.2.2.2.2.2.2)).bind fun r16 =>
 some (r16.1,r16.2.1,r16.2.2.1,r16.2.2.2.1,r16.2.2.2.2.1,r16.2.2.2.2.2.1,r16.2.2.2.2.2.2)
 else
 bif (eqI x.2.1.2.1 (11:Int)) then
 (Z8f (x.2.1,r15.2.1,r15.2.2.1,r15.2.2.2.1,r15.2.2.2.2.1,r15.2.2.2.2.2.1,r15.2.2.2.2.2.2)).bind fun r16 =>
 some (r16.1,r16.2.1,r16.2.2.1,r16.2.2.2.1,r16.2.2.2.2.1,r16.2.2.2.2.2.1,r16.2.2.2.2.2.2)
 else
 bif (eqI x.2.1.2.1 (12:Int)) then
 (Z8h (x.2.1,r15.2.1,r15.2.2.1,r15.2.2.2.1,r15.2.2.2.2.1,r15.2.2.2.2.2.1,r15.2.2.2.2.2.2)).bind fun r16 =>
 some (r16.1,r16.2.1,r16.2.2.1,r16.2.2.2.1,r16.2.2.2.2.1,r16.2.2.2.2.2.1,r16.2.2.2.2.2.2)
 else
 bif (eqI x.2.1.2.1 (14:Int)) then
 (Z8j (x.2.1,r15.2.1,r15.2.2.1,r15.2.2.2.1,r15.2.2.2.2.1,r15.2.2.2.2.2.1,r15.2.2.2.2.2.2)).bind fun r16 =>
 some (r16.1,r16.2.1,r16.2.2.1,r16.2.2.2.1,r16.2.2.2.2.1,r16.2.2.2.2.2.1,r16.2.2.2.2.2.2)
 else
 bif (eqI x.2.1.2.1 (15:Int)) then
 (Z81 (x.2.1,r15.2.1,r15.2.2.1,r15.2.2.2.1,r15.2.2.2.2.1,r15.2.2.2.2.2.1,r15.2.2.2.2.2.2)).bind fun r16 =>
 some (r16.1,r16.2.1,r16.2.2.1,r16.2.2.2.1,r16.2.2.2.2.1,r16.2.2.2.2.2.1,r16.2.2.2.2.2.2)
 else
 some (true,r15.2.1,r15.2.2.1,r15.2.2.2.1,r15.2.2.2.2.1,r15.2.2.2.2.2.1,r15.2.2.2.2.2.2)
 else
 (Z7k (x.1,x.2.1,x.2.2.1,x.2.2.2.1,x.2.2.2.2.1,x.2.2.2.2.2.1,x.2.2.2.2.2.2.1,x.2.2.2.2.2.2.2)).bind fun r13 =>
 bif (Bool.not r13.1) then
 some (false,r13.2.1,r13.2.2.1,r13.2.2.2.1,r13.2.2.2.2.1,r13.2.2.2.2.2.1,r13.2.2.2.2.2.2)
 else
 bif (eqI x.2.1.2.1 (1:Int)) then
 (Z84 (x.2.1,r13.2.1,r13.2.2.1,r13.2.2.2.1,r13.2.2.2.2.1,r13.2.2.2.2.2.1,r13.2.2.2.2.2.2)).bind fun r14 =>
 some (r14.1,r13.2.1,r13.2.2.1,r13.2.2.2.1,r13.2.2.2.2.1,r13.2.2.2.2.2.1,r13.2.2.2.2.2.2)
 else
 bif (eqI x.2.1.2.1 (3:Int)) then
 (Z87 (x.2.1,r13.2.1,r13.2.2.1,r13.2.2.2.1,r13.2.2.2.2.1,r13.2.2.2.2.2.1,r13.2.2.2.2.2.2)).bind fun r14 =>
 some (r14.1,r14.2.1,r14.2.2.1,r14.2.2.2.1,r14.2.2.2.2.1,r14.2.2.2.2.2.1,r14.2.2.2.2.2.2)
 else
 bif (eqI x.2.1.2.1 (5:Int)) then
 (Z89 (x.2.1,r13.2.1,r13.2.2.1,r13.2.2.2.1,r13.2.2.2.2.1,r13.2.2.2.2.2.1,r13.2.2.2.2.2.2)).bind fun r14 =>
 some (r14.1,r14.2.1,r14.2.2.1,r14.2.2.2.1,r14.2.2.2.2.1,r14.2.2.2.2.2.1,r14.2.2.2.2.2.2)
 else
 bif (eqI x.2.1.2.1 (6:Int)) then
 (Z8b (x.2.1,r13.2.1,r13.2.2.1,r13.2.2.2.1,r13.2.2.2.2.1,r13.2.2.2.2.2.1,r13.2.2.2.2.2.2)).bind fun r14 =>
 some (r14.1,r14.2.1,r14.2.2.1,r14.2.2.2.1,r14.2.2.2.2.1,r14.2.2.2.2.2.1,r14.2.2.2.2.2.2)
 else
 bif (eqI x.2.1.2.1 (7:Int)) then
 (Z8d (x.2.1,r13.2.1,r13.2.2.1,r13.2.2.2.1,r13.2.2.2.2.1,r13.2.2.2.2.2.1,r13.2.2.2.2.2.2)).bind fun r14 =>
 some (r14.1,r14.2.1,r14.2.2.1,r14.2.2.2.1,r14.2.2.2.2.1,r14.2.2.2.2.2.1,r14.2.2.2.2.2.2)
 else
 bif (eqI x.2.1.2.1 (11:Int)) then
 (Z8f (x.2.1,r13.2.1,r13.2.2.1,r13.2.2.2.1,r13.2.2.2.2.1,r13.2.2.2.2.2.1,r13.2.2.2.2.2.2)).bind fun r14 =>
 some (r14.1,r14.2.1,r14.2.2.1,r14.2.2.2.1,r14.2.2.2.2.1,r14.2.2.2.2.2.1,r14.2.2.2.2.2.2)
 else
 bif (eqI x.2.1.2.1 (12:Int)) then
 (Z8h (x.2.1,r13.2.1,r13.2.2.1,r13.2.2.2.1,r13.2.2.2.2.1,r13.2.2.2.2.2.1,r13.2.2.2.2.2.2)).bind fun r14 =>
 some (r14.1,r14.2.1,r14.2.2.1,r14.2.2.2.1,r14.2.2.2.2.1,r14.2.2.2.2.2.1,r14.2.2.2.2.2.2)
 else
 bif (eqI x.2.1.2.1 (14:Int)) then
 (Z8j (x.2.1,r13.2.1,r13.2.2.1,r13.2.2.2.1,r13.2.2.2.2.1,r13.2.2.2.2.2.1,r13.2.2.2.2.2.2)).bind fun r14 =>
 some (r14.1,r14.2.1,r14.2.2.1,r14.2.2.2.1,r14.2.2.2.2.1,r14.2.2.2.2.2.1,r14.2.2.2.2.2.2)
 else
 bif (eqI x.2.1.2.1 (15:Int)) then
 (Z81 (x.2.1,r13.2.1,r13.2.2.1,r13.2.2.2.1,r13.2.2.2.2.1,r13.2.2.2.2.2.1,r13.2.2.2.2.2.2)).bind fun r14 =>
 some (r14.1,r14.2.1,r14.2.2.1,r14.2.2.2.1,r14.2.2.2.2.1,r14.2.2.2.2.2.1,r14.2.2.2.2.2.2)
 else
 some (true,r13.2.1,r13.2.2.1,r13.2.2.2.1,r13.2.2.2.2.1,r13.2.2.2.2.2.1,r13.2.2.2.2.2.2)
 else
 none
abbrev Zvi:=Spec.shp Zmj Zr1 Z7x
def Zg2:Ctx:=mC [(88,[],Zvb),(188,[],Spec.thin (Zvd)),(189,[],Spec.thin (Zvg)),(190,[],Spec.thin (Zvc)),(143,[],Spec.shpR Zmn Zr5 Z84),(144,[],Spec.thin (Zvn)),(146,[],Spec.thin (Zvo)),(147,[],Spec.thin (Zvp)),(148,[],Spec.thin (Zvq)),(149,[],Spec.thin (Zvr)),(150,[],Spec.thin (Zvs)),(151,[],Spec.thin (Zvt)),(152,[],Spec.thin (Zvl))] [] 106 7
theorem Z7y:Sound Tryz.prog 153 (Zvi) :=
 tS Zg2 Tryz.f153 ⟨Z7j,Z7n.thin,Z7u.thin,Z7l.thin,Z86,Z88.thin,Z8a.thin,Z8c.thin,Z8e.thin,Z8g.thin,Z8i.thin,Z8k.thin,Z82.thin,trivial⟩
abbrev Zmf:Shape:=⟨sl_44,bl_33,ts_19,0⟩
abbrev Zqx:Shape:=⟨sl_1,bl_33,ts_20,7⟩
def Z7o (x:T38):Option T28 :=
 (Z7x (x.1,x.2.1,x.2.2.1,x.2.2.2.1,x.2.2.2.2.1,x.2.2.2.2.2.1,x.2.2.2.2.2.2.1,x.2.2.2.2.2.2.2)).bind fun r9 =>
 bif (Bool.not r9.1) then
 some (false,r9.2.1,r9.2.2.1,r9.2.2.2.1,r9.2.2.2.2.1,r9.2.2.2.2.2.1,r9.2.2.2.2.2.2)
 else
 bif (inb (natI (@mpos (Int × Int) (Int) (Ty.beq y4) (x.2.1.2.1,x.2.1.2.2.1) r9.2.2.2.2.1)) (List.length (@mput (Int × Int) (Int) (Ty.beq y4) (x.2.1.2.1,x.2.1.2.2.1) (@mlook (Int × Int) (Int) (Ty.beq y4) (Ty.zero (.int .i64)) (x.2.1.2.1,x.2.1.2.2.1) r9.2.2.2.2.1) r9.2.2.2.2.1))) then
 bif (inb x.2.1.1 8) then
 bif (x.2.1.2.1 == (0:Int)) then
 some (true,r9.2.1,(List.set r9.2.2.1 (toN x.2.1.1) (IntKind.wrap .i64 ((((List.length x.1):Nat):Int)+(1:Int)))),(IntKind.wrap .i64 (r9.2.2.2.1+(1:Int))),(mset (@mput (Int × Int) (Int) (Ty.beq y4) (x.2.1.2.1,x.2.1.2.2.1) (@mlook (Int × Int) (Int) (Ty.beq y4) (Ty.zero (.int .i64)) (x.2.1.2.1,x.2.1.2.2.1) r9.2.2.2.2.1) r9.2.2.2.2.1) (toN (natI (@mpos (Int × Int) (Int) (Ty.beq y4) (x.2.1.2.1,x.2.1.2.2.1) r9.2.2.2.2.1))) (IntKind.wrap .i64 ((@mlook (Int × Int) (Int) (Ty.beq y4) (Ty.zero (.int .i64)) (x.2.1.2.1,x.2.1.2.2.1) r9.2.2.2.2.1)+(1:Int)))),r9.2.2.2.2.2.1,r9.2.2.2.2.2.2)
 else
 bif (x.2.1.2.1 == (13:Int)) then
 bif ((@mlook (Int) (Int) (Ty.beq (.int .i64)) (Ty.zero (.int .i64)) x.2.1.2.2.1 r9.2.2.2.2.2.1) == (0:Int)) then
 some (true,r9.2.1,(List.set r9.2.2.1 (toN x.2.1.1) (IntKind.wrap .i64 ((((List.length x.1):Nat):Int)+(1:Int)))),r9.2.2.2.1,(mset (@mput (Int × Int) (Int) (Ty.beq y4) (x.2.1.2.1,x.2.1.2.2.1) (@mlook (Int × Int) (Int) (Ty.beq y4) (Ty.zero (.int .i64)) (x.2.1.2.1,x.2.1.2.2.1) r9.2.2.2.2.1) r9.2.2.2.2.1) (toN (natI (@mpos (Int × Int) (Int) (Ty.beq y4) (x.2.1.2.1,x.2.1.2.2.1) r9.2.2.2.2.1))) (IntKind.wrap .i64 ((@mlook (Int × Int) (Int) (Ty.beq y4) (Ty.zero (.int .i64)) (x.2.1.2.1,x.2.1.2.2.1) r9.2.2.2.2.1)+(1:Int)))),(@mput (Int) (Int) (Ty.beq (.int .i64)) x.2.1.2.2.1 (IntKind.wrap .i64 (x.2.1.1+(1:Int))) r9.2.2.2.2.2.1),r9.2.2.2.2.2.2)
 else
 some (true,r9.2.1,(List.set r9.2.2.1 (toN x.2.1.1) (IntKind.wrap .i64 ((((List.length x.1):Nat):Int)+(1:Int)))),r9.2.2.2.1,(mset (@mput (Int × Int) (Int) (Ty.beq y4) (x.2.1.2.1,x.2.1.2.2.1) (@mlook (Int × Int) (Int) (Ty.beq y4) (Ty.zero (.int .i64)) (x.2.1.2.1,x.2.1.2.2.1) r9.2.2.2.2.1) r9.2.2.2.2.1) (toN (natI (@mpos (Int × Int) (Int) (Ty.beq y4) (x.2.1.2.1,x.2.1.2.2.1) r9.2.2.2.2.1))) (IntKind.wrap .i64 ((@mlook (Int × Int) (Int) (Ty.beq y4) (Ty.zero (.int .i64)) (x.2.1.2.1,x.2.1.2.2.1) r9.2.2.2.2.1)+(1:Int)))),r9.2.2.2.2.2.1,r9.2.2.2.2.2.2)
 else
 some (true,r9.2.1,(List.set r9.2.2.1 (toN x.2.1.1) (IntKind.wrap .i64 ((((List.length x.1):Nat):Int)+(1:Int)))),r9.2.2.2.1,(mset (@mput (Int × Int) (Int) (Ty.beq y4) (x.2.1.2.1,x.2.1.2.2.1) (@mlook (Int × Int) (Int) (Ty.beq y4) (Ty.zero (.int .i64)) (x.2.1.2.1,x.2.1.2.2.1) r9.2.2.2.2.1) r9.2.2.2.2.1) (toN (natI (@mpos (Int × Int) (Int) (Ty.beq y4) (x.2.1.2.1,x.2.1.2.2.1) r9.2.2.2.2.1))) (IntKind.wrap .i64 ((@mlook (Int × Int) (Int) (Ty.beq y4) (Ty.zero (.int .i64)) (x.2.1.2.1,x.2.1.2.2.1) r9.2.2.2.2.1)+(1:Int)))),r9.2.2.2.2.2.1,r9.2.2.2.2.2.2)
 else
 none
 else
 none
abbrev Zve:=Spec.shp Zmf Zqx Z7o
def Zfy:Ctx:=mC [(153,[],Spec.thin (Zvi))] [] 64 7
theorem Z7p:Sound Tryz.prog 91 (Zve) :=
 tS Zfy Tryz.f91 ⟨Z7y.thin,trivial⟩
abbrev Zil:Shape:=⟨[(1,(.hole y27)),(6,(.ptr 0 [])),(27,(.hole y27)),(28,(.hole (.int .i64))),(29,(.hole (.int .i64)))],bl_33,[y27,y27,(.int .i64),(.int .i64),y0,y1,(.int .i64),(.slice y8),(.slice y4),(.slice y4)],0⟩
abbrev Zhm:List (ETag × Shape):=[(.ret,⟨[(4,(.hole (.int .i64))),(5,(.hole (.int .i64)))],[],ts_5,0⟩),(.exit 0,⟨[],[],[],0⟩)]
def Zb3 (x:(List (T20) × List (T20) × Int × Int × List Int × List Int × Int × List (T8) × List (Int × Int) × List (Int × Int))):Option ((List (T20) × List (T20) × Int × Int × List Int × List Int × Int × List (T8) × List (Int × Int) × List (Int × Int)) ⊕ ((Int × Int) ⊕ Unit)) :=
 bif (decide (x.2.2.2.1 < x.2.2.1)) then
 bif (inb x.2.2.2.1 (List.length x.2.1)) then
 bif (sub3 (0:Int) x.2.2.2.1 (List.length x.1)) then
 (Z7o ((cut x.1 (toN (0:Int)) ((toN x.2.2.2.1) - (toN (0:Int)))),(getAt ((0:Int),(0:Int),(0:Int),(0:Int),(0:Int)) x.2.1 (toN x.2.2.2.1)),x.2.2.2.2.1,x.2.2.2.2.2.1,x.2.2.2.2.2.2.1,x.2.2.2.2.2.2.2.1,x.2.2.2.2.2.2.2.2.1,x.2.2.2.2.2.2.2.2.2)).bind fun r8 =>
 bif (Bool.not r8.1) then
 some (.inr (.inl (x.2.2.2.1,(0:Int))))
 else
 some (.inl (x.1,x.2.1,x.2.2.1,(IntKind.wrap .i64 (x.2.2.2.1+(1:Int))),r8.2.1,r8.2.2.1,r8.2.2.2.1,r8.2.2.2.2.1,r8.2.2.2.2.2.1,r8.2.2.2.2.2.2))
 else
 none
 else
 none
 else
 some (.inr (.inr ()))
def Zfu:Ctx:=mC [(86,[87],Zuv),(89,[],Zvu),(90,[],Zvj),(91,[],Spec.thin (Zve))] [] 43 0
theorem Zb4:CSound Tryz.prog ⟨43,0,true⟩ (.loop (loopOf 7 Tryz.f37)) (pieceSpec Zil Zhm (loop Zb3)) :=
 tL Zfu 7 Tryz.f37 ⟨Z6n,Z8n,Z8l,Z7p.thin,trivial⟩
abbrev Zma:Shape:=⟨[(0,(.hole y0)),(1,(.hole y27))],[],[y0,y27],0⟩
abbrev Zqs:Shape:=⟨sl_7,[],ts_5,0⟩
def Z7e (x:(List Int × List (T20))):Option (Int × Int) :=
 bif (decide ((((List.length x.1):Nat):Int) > (4:Int))) then
 some ((0:Int),(1:Int))
 else
 (Z6m x.1).bind fun r4 =>
 bif r4 then
 some ((0:Int),(1:Int))
 else
 (Z8m ()).bind fun r5 =>
 (Z7z (x.1,((0:Int) :: ((0:Int) :: ((0:Int) :: ((0:Int) :: ((0:Int) :: ((0:Int) :: ((0:Int) :: ((0:Int) :: ([]:List Int))))))))),(0:Int),([]:List T8),([]:List (Int × Int)),r5)).bind fun r6 =>
 (loop Zb3 (x.2,x.2,(((List.length x.2):Nat):Int),(0:Int),r6.1,r6.2.1,r6.2.2.1,r6.2.2.2.1,r6.2.2.2.2.1,r6.2.2.2.2.2)).bind fun r7 =>
 match r7 with
 | .inl y8 =>
 some (y8.1,y8.2)
 | .inr y8 =>
 some ((Int.negSucc 0),(0:Int))
abbrev Zv9:=Spec.shp Zma Zqs Z7e
def Zfs:Ctx:=mC [(86,[87],Zuv),(89,[],Zvu),(90,[],Zvj),(91,[],Spec.thin (Zve))] [(0,7,pieceSpec Zil Zhm (loop Zb3))] 43 0
theorem Z7h:Sound Tryz.prog 37 (Zv9) :=
 tS Zfs Tryz.f37 ⟨Z6n,Z8n,Z8l,Z7p.thin,trivial⟩ ⟨(pL 7 Tryz.f37 Zb4),trivial⟩
abbrev Zkh:Shape:=⟨[],[],[],0⟩
abbrev Zoz:Shape:=⟨sl_1,[],ts_1,0⟩
def Z3r (x:Unit):Option (Bool) :=
 (Z7e (([]:List Int),(((0:Int),(0:Int),(0:Int),(0:Int),(Int.negSucc 0)) :: (((1:Int),(16:Int),(0:Int),(0:Int),(Int.negSucc 0)) :: ([]:List T20))))).bind fun r3 =>
 bif (r3.2 == (0:Int)) then
 some (r3.1 == (1:Int))
 else
 some false
abbrev Zth:=Spec.shp Zkh Zoz Z3r
def Zdd:Ctx:=mC [(37,[2000000],Zv9)] [] 16 0
theorem Z3s:Sound Tryz.prog 36 (Zth) :=
 tS Zdd Tryz.f36 ⟨Z7h,trivial⟩
def F_plaitlaw14_TraceRuns (x:(T47 × List Int × Int × Int)):Option (Bool) :=
 bif (sub3 (0:Int) (Min.min (((List.length x.2.1):Nat):Int) (150:Int)) (List.length x.2.1)) then
 (Z5m (x.1,(cut x.2.1 (toN (0:Int)) ((toN (Min.min (((List.length x.2.1):Nat):Int) (150:Int))) - (toN (0:Int)))),(IntKind.wrap .i64 ((1:Int)+(Int.tmod (IntKind.wrap .i64 ((Int.tmod x.2.2.1 (150:Int))+(150:Int))) (150:Int)))))).bind fun r1 =>
 bif (r1.2 != (0:Int)) then
 (Z3r ()).bind fun r2 =>
 bif r2 then
 bif (r1.2 == (1:Int)) then
 (Z3u x.1).bind fun r3 =>
 some (Bool.not r3)
 else
 some false
 else
 some false
 else
 bif ((IntKind.wrap .i64 ((((List.length r1.1.2.1):Nat):Int)+(1:Int))) != (0:Int)) then
 bif ((IntKind.wrap .i64 ((((List.length r1.1.2.1):Nat):Int)+(1:Int))) != (0:Int)) then
 (Z7e (x.1.1,r1.1.2.1)).bind fun r2 =>
 bif (sub3 (0:Int) (Int.tmod (IntKind.wrap .i64 ((IntKind.wrap .i64 ((Int.tmod x.2.2.2 (IntKind.wrap .i64 ((((List.length r1.1.2.1):Nat):Int)+(1:Int))))+(((List.length r1.1.2.1):Nat):Int)))+(1:Int))) (IntKind.wrap .i64 ((((List.length r1.1.2.1):Nat):Int)+(1:Int)))) (List.length r1.1.2.1)) then
 (Z7e (x.1.1,(cut r1.1.2.1 (toN (0:Int)) ((toN (Int.tmod (IntKind.wrap .i64 ((IntKind.wrap .i64 ((Int.tmod x.2.2.2 (IntKind.wrap .i64 ((((List.length r1.1.2.1):Nat):Int)+(1:Int))))+(((List.length r1.1.2.1):Nat):Int)))+(1:Int))) (IntKind.wrap .i64 ((((List.length r1.1.2.1):Nat):Int)+(1:Int))))) - (toN (0:Int)))))).bind fun r3 =>
 (Z3r ()).bind fun r4 =>
 bif r4 then
 bif (r2.2 == (0:Int)) then
 bif (r3.2 == (0:Int)) then
 bif (r2.1 == (Int.negSucc 0)) then
 bif (r3.1 == (Int.negSucc 0)) then
 some (decide ((((List.length r1.1.2.1):Nat):Int) > (0:Int)))
 else
 some false
 else
 some false
 else
 some false
 else
 some false
 else
 some false
 else
 none
 else
 none
 else
 none
 else
 none
def Zdc:Ctx:=mC [(28,[],Zud),(36,[],Zth),(15,[],Zti),(37,[],Zv9)] [] 101 0 true [] [(1,[1])]
theorem F_plaitlaw14_TraceRuns_ok:Sound Tryz.prog 12 (Spec.pure [y39,y0,(.int .i64),(.int .i64)] [.bool] F_plaitlaw14_TraceRuns) :=
 tP Zdc Tryz.f12 ⟨Z5n,Z3s,Z3v,Z7h,trivial⟩
end
end Go.Proofs.YthdlpkdojipfhaaGreat.VX.VxM_M

