import Derived.Test.YtifbgkikkiallaaGreatEdgesRunF0
set_option linter.unusedVariables false
set_option linter.unusedSimpArgs false
set_option maxRecDepth 100000
namespace Go.Proofs.YtifbgkikkiallaaGreat.VX.VxZ_Z
open Go.Proofs Go.Proofs.YtifbgkikkiallaaGreat.VX.T2
noncomputable section
abbrev Zj6:Shape:=⟨[(3,(.mp 0)),(7,(.hole (.slice y7))),(8,(.hole (.int .i64))),(9,(.hole (.int .i64)))],[.mp y6 (.int .i64)],[(.slice y7),(.int .i64),(.int .i64),(.slice y8)],0⟩
abbrev Zi5:List (ETag × Shape):=[(.exit 0,⟨[(3,(.mp 0))],[.mp y6 (.int .i64)],[(.slice y8)],0⟩)]
def Zbf (x:(List (T7) × Int × Int × List (T8))):Option ((List (T7) × Int × Int × List (T8)) ⊕ (List (T8))) :=
 let s:=IntKind.wrap .i64;
 let q:=x.2.2;
 let p:=((getAt ((0:Int),(0:Int),(0:Int)) x.1 (toN q.1)).1,(getAt ((0:Int),(0:Int),(0:Int)) x.1 (toN q.1)).2.1);
 bif (decide (q.1 < x.2.1)) then
 bif (inb q.1 (List.length x.1)) then
 bif (inb (natI (@mpos (Int × Int) (Int) (Ty.beq y6) p q.2)) (List.length (@mput (Int × Int) (Int) (Ty.beq y6) p (@mlook (Int × Int) (Int) (Ty.beq y6) (Ty.zero (.int .i64)) p q.2) q.2))) then
 some (.inl (x.1,x.2.1,(s (q.1+(1:Int))),(mset (@mput (Int × Int) (Int) (Ty.beq y6) p (@mlook (Int × Int) (Int) (Ty.beq y6) (Ty.zero (.int .i64)) p q.2) q.2) (toN (natI (@mpos (Int × Int) (Int) (Ty.beq y6) p q.2))) (s ((@mlook (Int × Int) (Int) (Ty.beq y6) (Ty.zero (.int .i64)) p q.2)+(1:Int))))))
 else
 none
 else
 none
 else
 some (.inr q.2)
def Zh4:Ctx:=mC [] [] 25 0
theorem Zbg:CSound Tryz.prog ⟨25,0,true⟩ (.loop (loopOf 4 Tryz.f284)) (pieceSpec Zj6 Zi5 (loop Zbf)) :=
 tL Zh4 4 Tryz.f284 trivial
abbrev Zns:Shape:=⟨[(0,(.hole (.slice y7)))],[],[(.slice y7)],0⟩
abbrev Zse:Shape:=⟨[(0,(.mp 0))],[.mp y6 (.int .i64)],[(.slice y8)],0⟩
def Z9d (x:(List (T7))):Option (List (T8)) :=
 (loop Zbf (x,(((List.length x):Nat):Int),0,([]:List T8))).bind fun r17 =>
 some r17
abbrev Zwy:=Spec.shp Zns Zse Z9d
def Zh3:Ctx:=mC [] [(0,4,pieceSpec Zj6 Zi5 (loop Zbf))] 25 0
theorem Z9e:Sound Tryz.prog 284 (Zwy) :=
 tS Zh3 Tryz.f284 trivial ⟨(pL 4 Tryz.f284 Zbg),trivial⟩
abbrev Znp:Shape:=⟨[(0,(.hole (.slice y7)))],[],[(.slice y7)],0⟩
abbrev Zsb:Shape:=⟨sl_1,[],ts_1,0⟩
def Z97 (x:(List (T7))):Option (Bool) :=
 (Z6p x).bind fun r15 =>
 bif r15 then
 some false
 else
 bif (decide ((((List.length x):Nat):Int) <= 64)) then
 (Z9d x).bind fun r16 =>
 some ((((List.length r16):Nat):Int) == (((List.length x):Nat):Int))
 else
 some false
abbrev Zwv:=Spec.shp Znp Zsb Z97
def Zh0:Ctx:=mC [(202,[282],Zvo),(284,[],Zwy)] [] 16 0
theorem Z9a:Sound Tryz.prog 252 (Zwv) :=
 tS Zh0 Tryz.f252 ⟨Z6q,Z9e,trivial⟩
abbrev Zi6:Shape:=⟨[(0,(.hole y1)),(1,(.hole (.int .i64))),(2,(.hole (.int .i64))),(9,(.hole y1)),(10,(.hole (.int .i64))),(11,(.hole (.int .i64)))],[],[y1,(.int .i64),(.int .i64),y1,(.int .i64),(.int .i64)],0⟩
abbrev Zh5:List (ETag × Shape):=[(.ret,⟨sl_33,[],ts_1,0⟩),(.exit 0,⟨sl_34,[],ts_3,0⟩)]
def Z9f (x:(List Int × Int × Int × List Int × Int × Int)):Option ((List Int × Int × Int × List Int × Int × Int) ⊕ ((Bool) ⊕ T10)) :=
 let q:=IntKind.wrap .i64;
 let p:=x.2.2.2;
 bif (decide (p.2.2 < p.2.1)) then
 bif (inb p.2.2 (List.length p.1)) then
 bif ((getAt 0 p.1 (toN p.2.2)) != (q (x.2.1+p.2.2))) then
 some (.inr (.inl false))
 else
 some (.inl (x.1,x.2.1,x.2.2.1,p.1,p.2.1,(q (p.2.2+1))))
 else
 none
 else
 some (.inr (.inr (x.1,x.2.1,x.2.2.1)))
def Zbq:Ctx:=mC [] [] 28 0
theorem Z9g:CSound Tryz.prog ⟨28,0,true⟩ (.loop (loopOf 3 Tryz.f253)) (pieceSpec Zi6 Zh5 (loop Z9f)) :=
 tL Zbq 3 Tryz.f253 trivial
abbrev Zjf:Shape:=⟨sl_34,[],ts_3,0⟩
abbrev Zo1:Shape:=⟨sl_1,[],ts_1,0⟩
def Zg (x:T10):Option (Bool) :=
 (loop Z9f (x.1,x.2.1,x.2.2,x.1,(((List.length x.1):Nat):Int),0)).bind fun r17 =>
 match r17 with
 | .inl y18 =>
 some y18
 | .inr y18 =>
 some ((((List.length y18.1):Nat):Int) == (IntKind.wrap .i64 (y18.2.2 - y18.2.1)))
abbrev Zsn:=Spec.shp Zjf Zo1 Zg
def Zbp:Ctx:=mC [] [(0,3,pieceSpec Zi6 Zh5 (loop Z9f))] 28 0
theorem Zh:Sound Tryz.prog 253 (Zsn) :=
 tS Zbp Tryz.f253 trivial ⟨(pL 3 Tryz.f253 Z9g),trivial⟩
abbrev Zjc:Shape:=⟨[(0,(.hole y50))],[],[y50],0⟩
abbrev Zny:Shape:=⟨sl_1,[],ts_1,0⟩
def Za (x:T51):Option (Bool) :=
 (Z59 x.2.2.1).bind fun r13 =>
 bif (r13.2 != 0) then
 some false
 else
 bif (decide (x.1 < (Int.negSucc 0))) then
 some false
 else
 bif (decide (x.1 > 3)) then
 some false
 else
 bif (x.2.2.1.1 != (Max.max x.1 0)) then
 some false
 else
 (Z97 x.2.2.2.2.2.1).bind fun r14 =>
 bif (Bool.not r14) then
 some false
 else
 (Z97 x.2.2.2.2.2.2).bind fun r15 =>
 bif (Bool.not r15) then
 some false
 else
 bif (decide (x.2.2.2.1 < 0)) then
 some false
 else
 bif (decide (x.2.2.2.1 > 1048576)) then
 some false
 else
 bif (decide (x.2.2.2.2.1 < 0)) then
 some false
 else
 bif (decide (x.2.2.2.2.1 > x.2.2.2.1)) then
 some false
 else
 (Zg (r13.1,x.2.2.2.2.1,x.2.2.2.1)).bind fun r16 =>
 bif (Bool.not r16) then
 some false
 else
 bif (decide (x.1 < 0)) then
 bif (Bool.not x.2.1) then
 bif (x.2.2.2.1 == 0) then
 bif (Bool.not (decide ((((List.length x.2.2.2.2.2.1):Nat):Int) > 0))) then
 some (Bool.not (decide ((((List.length x.2.2.2.2.2.2):Nat):Int) > 0)))
 else
 some false
 else
 some false
 else
 some false
 else
 bif x.2.1 then
 bif (Bool.not (decide ((((List.length x.2.2.2.2.2.1):Nat):Int) > 0))) then
 some (Bool.not (decide ((((List.length x.2.2.2.2.2.2):Nat):Int) > 0)))
 else
 some false
 else
 bif (Bool.not (decide ((((List.length x.2.2.2.2.2.1):Nat):Int) > 0))) then
 bif (Bool.not (decide ((((List.length x.2.2.2.2.2.2):Nat):Int) > 0))) then
 some true
 else
 some ((((List.length r13.1):Nat):Int) == 0)
 else
 bif ((((List.length r13.1):Nat):Int) == x.1) then
 bif (Bool.not (decide ((((List.length x.2.2.2.2.2.2):Nat):Int) > 0))) then
 some true
 else
 some ((((List.length r13.1):Nat):Int) == 0)
 else
 some false
abbrev Zsk:=Spec.shp Zjc Zny Za
def Zbm:Ctx:=mC [(251,[],Zuz),(252,[],Zwv),(253,[],Zsn)] [] 130 0
theorem Zb:Sound Tryz.prog 201 (Zsk) :=
 tS Zbm Tryz.f201 ⟨Z5a,Z9a,Zh,trivial⟩
abbrev Zk7:Shape:=⟨[(0,(.hole .bool)),(1,(.ptr 0 [])),(2,(.ptr 1 []))],[.var (.hole y55),.var (.hole (.int .i64))],[.bool,y55,(.int .i64)],0⟩
abbrev Zot:Shape:=⟨[(0,(.fn 199 .nil (.cons (.ptr 0 []) (.cons (.ptr 1 []) (.cons (.ptr 2 []) .nil)))))],bl_21,[y55,(.int .i64),.bool],2⟩
def Z21 (x:(Bool × (T54 × T60) × Int)):Option ((T54 × T60) × Int × Bool) :=
 some (x.2.1,x.2.2,x.1)
abbrev Zte:=Spec.shp Zk7 Zot Z21
def Zcp:Ctx:=mC [] [] 6 2
theorem Z24:Sound Tryz.prog 198 (Zte) :=
 tS Zcp Tryz.f198 trivial
abbrev Zl2:Shape:=⟨[(0,(.hole y55)),(1,(.hole y7))],[],[y55,y7],0⟩
abbrev Zpo:Shape:=⟨[(0,(.hole y7)),(1,(.hole .bool))],[],[y7,.bool],0⟩
def Z3t (x:((T54 × T60) × T7)):Option (T7 × Bool) :=
 bif (decide (x.2.1 ≥ (((List.length x.1.2.1):Nat):Int))) then
 some ((0,0,0),false)
 else
 bif (inb x.2.1 (List.length x.1.2.1)) then
 bif ((getAt (0,0,0,false) x.1.2.1 (toN x.2.1)).2.2.1 != 1) then
 some ((0,0,0),false)
 else
 bif (inb x.2.1 (List.length x.1.2.1)) then
 bif (inb (getAt (0,0,0,false) x.1.2.1 (toN x.2.1)).1 (List.length x.1.1.2.2.2.2.2)) then
 bif (inb (getAt (0,0,0,false) x.1.2.1 (toN x.2.1)).2.1 (List.length (getAt ([]:List T7) x.1.1.2.2.2.2.2 (toN (getAt (0,0,0,false) x.1.2.1 (toN x.2.1)).1)))) then
 some ((getAt (0,0,0) (getAt ([]:List T7) x.1.1.2.2.2.2.2 (toN (getAt (0,0,0,false) x.1.2.1 (toN x.2.1)).1)) (toN (getAt (0,0,0,false) x.1.2.1 (toN x.2.1)).2.1)),true)
 else
 none
 else
 none
 else
 none
 else
 none
abbrev Zu9:=Spec.shp Zl2 Zpo Z3t
def Zdq:Ctx:=mC [] [] 41 0
theorem Z3u:Sound Tryz.prog 205 (Zu9) :=
 tS Zdq Tryz.f205 trivial
abbrev Zk2:Shape:=⟨[(0,(.hole y55)),(1,(.hole y7)),(2,(.hole (.int .i64))),(3,(.hole .bool))],[],[y55,y7,(.int .i64),.bool],0⟩
abbrev Zoo:Shape:=⟨sl_1,[],ts_1,0⟩
def Z1s (x:((T54 × T60) × T7 × Int × Bool)):Option (Bool) :=
 let q:=x.2.2;
 (Z3t (x.1,x.2.1)).bind fun r19 =>
 let p:=(getAt (([]:List T1),false) x.1.1.2.2.2.2.1 (toN r19.1.2.1));
 bif (Bool.not r19.2) then
 some false
 else
 bif (r19.1.1 == 4) then
 bif (inb r19.1.2.1 (List.length x.1.1.2.2.2.2.1)) then
 bif (decide (x.2.1.2.1 < (((List.length p.1):Nat):Int))) then
 bif (inb x.2.1.2.1 (List.length p.1)) then
 some (((getAt (false,0) p.1 (toN x.2.1.2.1)).1 == (q.2,q.1).1) && ((getAt (false,0) p.1 (toN x.2.1.2.1)).2 == (q.2,q.1).2))
 else
 none
 else
 some false
 else
 none
 else
 bif q.2 then
 some ((r19.1.1 == (1,q.1,0).1) && ((r19.1.2.1 == (1,q.1,0).2.1) && (r19.1.2.2 == (1,q.1,0).2.2)))
 else
 some ((r19.1.1 == (2,q.1,0).1) && ((r19.1.2.1 == (2,q.1,0).2.1) && (r19.1.2.2 == (2,q.1,0).2.2)))
abbrev Zt9:=Spec.shp Zk2 Zoo Z1s
def Zci:Ctx:=mC [(205,[],Zu9)] [] 59 0
theorem Z1t:Sound Tryz.prog 200 (Zt9) :=
 tS Zci Tryz.f200 ⟨Z3u,trivial⟩
abbrev Zk8:Shape:=⟨sl_35,bl_21,[y7,y55,(.int .i64),.bool],0⟩
abbrev Zou:Shape:=⟨sl_1,bl_21,[.bool,y55,(.int .i64),.bool],3⟩
def Z22 (x:(T7 × (T54 × T60) × Int × Bool)):Option (Bool × (T54 × T60) × Int × Bool) :=
 (Z1s (x.2.1,x.1,x.2.2.1,x.2.2.2)).bind fun r18 =>
 some ((Bool.not r18),x.2.1,x.2.2.1,x.2.2.2)
abbrev Ztf:=Spec.shp Zk8 Zou Z22
def Zcr:Ctx:=mC [(200,[],Zt9)] [] 12 3
theorem Z23:Sound Tryz.prog 199 (Ztf) :=
 tS Zcr Tryz.f199 ⟨Z1t,trivial⟩
abbrev Zix:Shape:=⟨[(0,(.hole (.slice y7))),(1,(.fn 199 .nil (.cons (.ptr 0 []) (.cons (.ptr 1 []) (.cons (.ptr 2 []) .nil))))),(7,(.hole (.int .i64))),(8,(.hole (.int .i64)))],bl_21,[(.slice y7),(.int .i64),(.int .i64),y55,(.int .i64),.bool],3⟩
abbrev Zhw:List (ETag × Shape):=[(.ret,⟨sl_3,bl_21,[(.int .i64),y55,(.int .i64),.bool],3⟩),(.exit 0,⟨[],bl_21,[y55,(.int .i64),.bool],3⟩)]
def Zax (x:(List (T7) × Int × Int × (T54 × T60) × Int × Bool)):Option ((List (T7) × Int × Int × (T54 × T60) × Int × Bool) ⊕ ((Int × (T54 × T60) × Int × Bool) ⊕ ((T54 × T60) × Int × Bool))) :=
 let p:=x.2.2;
 bif (decide (p.1 < x.2.1)) then
 bif (inb p.1 (List.length x.1)) then
 (Z22 ((getAt (0,0,0) x.1 (toN p.1)),p.2.1,p.2.2.1,p.2.2.2)).bind fun r17 =>
 let q:=r17.2.2;
 bif r17.1 then
 some (.inr (.inl (p.1,r17.2.1,q.1,q.2)))
 else
 some (.inl (x.1,x.2.1,(IntKind.wrap .i64 (p.1+1)),r17.2.1,q.1,q.2))
 else
 none
 else
 some (.inr (.inr (p.2.1,p.2.2.1,p.2.2.2)))
def Zft:Ctx:=mC [(199,[],Ztf)] [] 19 3
theorem Zay:CSound Tryz.prog ⟨19,3,true⟩ (.loop (loopOf 3 Tryz.f254)) (pieceSpec Zix Zhw (loop Zax)) :=
 tL Zft 3 Tryz.f254 ⟨Z23,trivial⟩
abbrev Zmq:Shape:=⟨sl_36,bl_21,[(.slice y7),y55,(.int .i64),.bool],0⟩
abbrev Zrc:Shape:=⟨sl_2,bl_21,[(.int .i64),y55,(.int .i64),.bool],3⟩
def Z75 (x:(List (T7) × (T54 × T60) × Int × Bool)):Option (Int × (T54 × T60) × Int × Bool) :=
 (loop Zax (x.1,(((List.length x.1):Nat):Int),0,x.2.1,x.2.2.1,x.2.2.2)).bind fun r16 =>
 match r16 with
 | .inl y17 =>
 some (y17.1,y17.2.1,y17.2.2.1,y17.2.2.2)
 | .inr y17 =>
 some ((Int.negSucc 0),y17.1,y17.2.1,y17.2.2)
abbrev Zvw:=Spec.shp Zmq Zrc Z75
def Zfs:Ctx:=mC [(199,[],Ztf)] [(0,3,pieceSpec Zix Zhw (loop Zax))] 19 3
theorem Z76:Sound Tryz.prog 254 (Zvw) :=
 tS Zfs Tryz.f254 ⟨Z23,trivial⟩ ⟨(pL 3 Tryz.f254 Zay),trivial⟩
abbrev Zmg:Shape:=⟨sl_36,bl_21,[(.slice y7),y55,(.int .i64),.bool],0⟩
abbrev Zr2:Shape:=⟨sl_1,bl_21,[.bool,y55,(.int .i64),.bool],3⟩
def Z6l (x:(List (T7) × (T54 × T60) × Int × Bool)):Option (Bool × (T54 × T60) × Int × Bool) :=
 (Z75 (x.1,x.2.1,x.2.2.1,x.2.2.2)).bind fun r15 =>
 some ((decide (r15.1 ≥ 0)),r15.2.1,r15.2.2.1,r15.2.2.2)
abbrev Zvm:=Spec.shp Zmg Zr2 Z6l
def Zfe:Ctx:=mC [(254,[199],Zvw)] [] 9 3
theorem Z6m:Sound Tryz.prog 202 (Zvm) :=
 tS Zfe Tryz.f202 ⟨Z76,trivial⟩
abbrev Zif:Shape:=⟨[(1,(.ptr 0 [])),(3,(.ptr 1 [])),(64,(.hole y51)),(65,(.hole (.int .i64))),(66,(.hole (.int .i64)))],[.var (.hole y55),.var (.hole y49)],[y51,(.int .i64),(.int .i64),y55,y49],0⟩
abbrev Zhe:List (ETag × Shape):=[(.ret,⟨[(2,(.hole .bool))],[],ts_1,0⟩),(.exit 0,⟨[(1,(.ptr 0 []))],[.var (.hole y55)],[y55],0⟩)]
def Z9x (x:(List T51 × Int × Int × (T54 × T60) × T54)):Option ((List T51 × Int × Int × (T54 × T60) × T54) ⊕ ((Bool) ⊕ (T54 × T60))) :=
 let q:=x.2.2;
 let p:=(getAt ((0:Int),false,((0:Int),(0:Int),([]:List Int),(0:Int)),(0:Int),(0:Int),([]:List T7),([]:List T7)) x.1 (toN q.1));
 bif (decide (q.1 < x.2.1)) then
 bif (inb q.1 (List.length x.1)) then
 (Za p).bind fun r12 =>
 bif (Bool.not r12) then
 some (.inr (.inl false))
 else
 bif (inb q.1 (List.length q.2.2.1)) then
 bif (p.1 != (getAt 0 q.2.2.1 (toN q.1))) then
 some (.inr (.inl false))
 else
 (Z21 (true,q.2.1,q.1)).bind fun r13 =>
 (Z6l (p.2.2.2.2.2.1,r13.1,r13.2.1,r13.2.2)).bind fun r14 =>
 bif r14.1 then
 some (.inr (.inl false))
 else
 (Z21 (false,r14.2.1,r14.2.2.1)).bind fun r15 =>
 (Z6l (p.2.2.2.2.2.2,r15.1,r15.2.1,r15.2.2)).bind fun r16 =>
 bif r16.1 then
 some (.inr (.inl false))
 else
 some (.inl (x.1,x.2.1,(IntKind.wrap .i64 (q.1+1)),r16.2.1,q.2.2))
 else
 none
 else
 none
 else
 some (.inr (.inr q.2.1))
def Zcu:Ctx:=mC [(95,[],Zuj),(194,[196],Zvk),(201,[],Zsk),(198,[],Zte),(202,[199],Zvm)] [] 141 0
theorem Z9y:CSound Tryz.prog ⟨141,0,true⟩ (.loop (loopOf 8 Tryz.f132)) (pieceSpec Zif Zhe (loop Z9x)) :=
 tL Zcu 8 Tryz.f132 ⟨Z4e,Z6i,Zb,Z24,Z6m,trivial⟩
abbrev Zjw:Shape:=⟨[(0,(.hole y24))],[],[y24],0⟩
abbrev Zoi:Shape:=⟨sl_1,[],ts_1,0⟩
def Z1g (x:(T24)):Option (Bool) :=
 (Z97 x.2).bind fun r15 =>
 bif r15 then
 bif x.1 then
 some true
 else
 some ((((List.length x.2):Nat):Int) == 0)
 else
 some false
abbrev Zt3:=Spec.shp Zjw Zoi Z1g
def Zca:Ctx:=mC [(252,[],Zwv)] [] 16 0
theorem Z1h:Sound Tryz.prog 206 (Zt3) :=
 tS Zca Tryz.f206 ⟨Z9a,trivial⟩
abbrev Zk9:Shape:=⟨[(0,(.hole (.int .i64))),(1,(.hole (.int .i64))),(2,(.ptr 0 []))],[.var (.hole y55)],[(.int .i64),(.int .i64),y55],0⟩
abbrev Zov:Shape:=⟨[(0,(.fn 204 .nil (.cons (.ptr 0 []) (.cons (.ptr 1 []) (.cons (.ptr 2 []) .nil)))))],bl_22,[y55,(.int .i64),(.int .i64)],1⟩
def Z25 (x:(Int × Int × (T54 × T60))):Option ((T54 × T60) × Int × Int) :=
 some (x.2.2,x.1,x.2.1)
abbrev Ztg:=Spec.shp Zk9 Zov Z25
def Zcs:Ctx:=mC [] [] 7 1
theorem Z28:Sound Tryz.prog 203 (Ztg) :=
 tS Zcs Tryz.f203 trivial
abbrev Zka:Shape:=⟨sl_35,bl_22,[y7,y55,(.int .i64),(.int .i64)],0⟩
abbrev Zow:Shape:=⟨sl_1,bl_22,[.bool,y55,(.int .i64),(.int .i64)],3⟩
def Z26 (x:(T7 × (T54 × T60) × Int × Int)):Option (Bool × (T54 × T60) × Int × Int) :=
 let p:=x.2.2;
 (Z3t (x.2.1,x.1)).bind fun r20 =>
 bif (Bool.not r20.2) then
 some (true,x.2.1,p.1,p.2)
 else
 bif (r20.1.1 != p.1) then
 some (true,x.2.1,p.1,p.2)
 else
 some ((r20.1.2.1 != p.2),x.2.1,p.1,p.2)
abbrev Zth:=Spec.shp Zka Zow Z26
def Zct:Ctx:=mC [(205,[],Zu9)] [] 28 3
theorem Z27:Sound Tryz.prog 204 (Zth) :=
 tS Zct Tryz.f204 ⟨Z3u,trivial⟩
abbrev Ziy:Shape:=⟨[(0,(.hole (.slice y7))),(1,(.fn 204 .nil (.cons (.ptr 0 []) (.cons (.ptr 1 []) (.cons (.ptr 2 []) .nil))))),(7,(.hole (.int .i64))),(8,(.hole (.int .i64)))],bl_22,[(.slice y7),(.int .i64),(.int .i64),y55,(.int .i64),(.int .i64)],3⟩
abbrev Zhx:List (ETag × Shape):=[(.ret,⟨sl_3,bl_22,[(.int .i64),y55,(.int .i64),(.int .i64)],3⟩),(.exit 0,⟨[],bl_22,[y55,(.int .i64),(.int .i64)],3⟩)]
def Zaz (x:(List (T7) × Int × Int × (T54 × T60) × Int × Int)):Option ((List (T7) × Int × Int × (T54 × T60) × Int × Int) ⊕ ((Int × (T54 × T60) × Int × Int) ⊕ ((T54 × T60) × Int × Int))) :=
 let p:=x.2.2;
 bif (decide (p.1 < x.2.1)) then
 bif (inb p.1 (List.length x.1)) then
 (Z26 ((getAt (0,0,0) x.1 (toN p.1)),p.2.1,p.2.2.1,p.2.2.2)).bind fun r19 =>
 let q:=r19.2.2;
 bif r19.1 then
 some (.inr (.inl (p.1,r19.2.1,q.1,q.2)))
 else
 some (.inl (x.1,x.2.1,(IntKind.wrap .i64 (p.1+1)),r19.2.1,q.1,q.2))
 else
 none
 else
 some (.inr (.inr (p.2.1,p.2.2.1,p.2.2.2)))
def Zfv:Ctx:=mC [(204,[],Zth)] [] 19 3
theorem Zb0:CSound Tryz.prog ⟨19,3,true⟩ (.loop (loopOf 3 Tryz.f254)) (pieceSpec Ziy Zhx (loop Zaz)) :=
 tL Zfv 3 Tryz.f254 ⟨Z27,trivial⟩
abbrev Zmr:Shape:=⟨sl_37,bl_22,[(.slice y7),y55,(.int .i64),(.int .i64)],0⟩
abbrev Zrd:Shape:=⟨sl_2,bl_22,[(.int .i64),y55,(.int .i64),(.int .i64)],3⟩
def Z77 (x:(List (T7) × (T54 × T60) × Int × Int)):Option (Int × (T54 × T60) × Int × Int) :=
 (loop Zaz (x.1,(((List.length x.1):Nat):Int),0,x.2.1,x.2.2.1,x.2.2.2)).bind fun r18 =>
 match r18 with
 | .inl y19 =>
 some (y19.1,y19.2.1,y19.2.2.1,y19.2.2.2)
 | .inr y19 =>
 some ((Int.negSucc 0),y19.1,y19.2.1,y19.2.2)
abbrev Zvx:=Spec.shp Zmr Zrd Z77
def Zfu:Ctx:=mC [(204,[],Zth)] [(0,3,pieceSpec Ziy Zhx (loop Zaz))] 19 3
theorem Z78:Sound Tryz.prog 254 (Zvx) :=
 tS Zfu Tryz.f254 ⟨Z27,trivial⟩ ⟨(pL 3 Tryz.f254 Zb0),trivial⟩
abbrev Zmh:Shape:=⟨sl_37,bl_22,[(.slice y7),y55,(.int .i64),(.int .i64)],0⟩
abbrev Zr3:Shape:=⟨sl_1,bl_22,[.bool,y55,(.int .i64),(.int .i64)],3⟩
def Z6n (x:(List (T7) × (T54 × T60) × Int × Int)):Option (Bool × (T54 × T60) × Int × Int) :=
 (Z77 (x.1,x.2.1,x.2.2.1,x.2.2.2)).bind fun r17 =>
 some ((decide (r17.1 ≥ 0)),r17.2.1,r17.2.2.1,r17.2.2.2)
abbrev Zvn:=Spec.shp Zmh Zr3 Z6n
def Zff:Ctx:=mC [(254,[204],Zvx)] [] 9 3
theorem Z6o:Sound Tryz.prog 202 (Zvn) :=
 tS Zff Tryz.f202 ⟨Z78,trivial⟩
abbrev Zid:Shape:=⟨[(1,(.ptr 0 [])),(7,(.fn 203 .nil (.cons (.ptr 0 []) .nil))),(102,(.hole y29)),(103,(.hole (.int .i64))),(104,(.hole (.int .i64)))],[.var (.hole y55)],[y29,(.int .i64),(.int .i64),y55],0⟩
abbrev Zhc:List (ETag × Shape):=[(.ret,⟨[(2,(.hole .bool))],[],ts_1,0⟩),(.exit 2,⟨[(1,(.ptr 0 [])),(7,(.fn 203 .nil (.cons (.ptr 0 []) .nil)))],[.var (.hole y55)],[y55],0⟩)]
def Z9t (x:(List (T24) × Int × Int × (T54 × T60))):Option ((List (T24) × Int × Int × (T54 × T60)) ⊕ ((Bool) ⊕ (T54 × T60))) :=
 let p:=x.2.2;
 bif (decide (p.1 < x.2.1)) then
 bif (inb p.1 (List.length x.1)) then
 (Z1g (getAt (false,([]:List T7)) x.1 (toN p.1))).bind fun r14 =>
 bif (Bool.not r14) then
 some (.inr (.inl false))
 else
 (Z25 (5,p.1,p.2)).bind fun r15 =>
 (Z6n ((getAt (false,([]:List T7)) x.1 (toN p.1)).2,r15.1,r15.2.1,r15.2.2)).bind fun r16 =>
 bif r16.1 then
 some (.inr (.inl false))
 else
 some (.inl (x.1,x.2.1,(IntKind.wrap .i64 (p.1+1)),r16.2.1))
 else
 none
 else
 some (.inr (.inr p.2))
def Zco:Ctx:=mC [(95,[],Zuj),(194,[196],Zvk),(201,[],Zsk),(198,[],Zte),(202,[199],Zvm),(206,[],Zt3),(203,[],Ztg),(202,[204],Zvn)] [(0,8,pieceSpec Zif Zhe (loop Z9x))] 141 0
theorem Z9u:CSound Tryz.prog ⟨141,0,true⟩ (.loop (loopOf 16 Tryz.f132)) (pieceSpec Zid Zhc (loop Z9t)) :=
 tL Zco 16 Tryz.f132 ⟨Z4e,Z6i,Zb,Z24,Z6m,Z1h,Z28,Z6o,trivial⟩ ⟨pN,trivial⟩
abbrev Zmb:Shape:=⟨[(0,(.hole (.slice y7)))],[],[(.slice y7)],0⟩
abbrev Zqx:Shape:=⟨[(0,(.sl 0))],[.row y7],[(.slice y7)],0⟩
def Z6b (x:(List (T7))):Option (List (T7)) :=
 bif (Nat.beq (List.length x) (0:Nat)) then
 amb (
 some ([]:List T7)) (
 bif (fits ((List.length ([]:List T7))+(List.length x))) then
 some (([]:List T7)++x)
 else
 none)
 else
 bif (fits ((List.length ([]:List T7))+(List.length x))) then
 some (([]:List T7)++x)
 else
 none
abbrev Zvh:=Spec.shp Zmb Zqx Z6b
def Zf9:Ctx:=mC [] [] 8 0
theorem Z6c:Sound Tryz.prog 286 (Zvh) :=
 tS Zf9 Tryz.f286 trivial
abbrev Znl:Shape:=⟨[(0,(.hole y7)),(1,(.ptr 0 []))],bl_16,[y7,(.int .i64)],0⟩
abbrev Zs7:Shape:=⟨sl_1,bl_16,ts_15,1⟩
def Z8w (x:(T7 × Int)):Option T1 :=
 some ((x.1.1 == x.2),x.2)
abbrev Zwr:=Spec.shp Znl Zs7 Z8w
def Zgw:Ctx:=mC [] [] 8 1
theorem Z8x:Sound Tryz.prog 287 (Zwr) :=
 tS Zgw Tryz.f287 trivial
theorem Z8y:Sound Tryz.prog 287 (Spec.shpR Znl Zs7 Z8w) :=
 Sound.shpR (fun x y h=>by have h:=Option.some.inj h; subst h; rfl) Z8x
abbrev Ziz:Shape:=⟨[(0,(.sl 0)),(1,(.fn 287 .nil (.cons (.ptr 1 []) .nil))),(7,(.hole (.int .i64))),(8,(.hole (.int .i64)))],bl_23,[(.int .i64),(.int .i64),(.slice y7),(.int .i64)],2⟩
abbrev Zhy:List (ETag × Shape):=[(.ret,⟨sl_3,bl_23,[(.int .i64),(.slice y7),(.int .i64)],2⟩),(.exit 0,⟨[],bl_23,ts_26,2⟩)]
def Zb1 (x:(Int × Int × List (T7) × Int)):Option ((Int × Int × List (T7) × Int) ⊕ ((Int × List (T7) × Int) ⊕ T19)) :=
 let p:=x.2.2;
 bif (decide (x.2.1 < x.1)) then
 bif (inb x.2.1 (List.length p.1)) then
 (Z8w ((getAt (0,0,0) p.1 (toN x.2.1)),p.2)).bind fun r24 =>
 bif r24.1 then
 some (.inr (.inl (x.2.1,p.1,p.2)))
 else
 some (.inl (x.1,(IntKind.wrap .i64 (x.2.1+1)),p.1,p.2))
 else
 none
 else
 some (.inr (.inr (p.1,p.2)))
def Zfx:Ctx:=mC [(287,[],Spec.shpR Znl Zs7 Z8w)] [] 19 2
theorem Zb2:CSound Tryz.prog ⟨19,2,true⟩ (.loop (loopOf 3 Tryz.f254)) (pieceSpec Ziz Zhy (loop Zb1)) :=
 tL Zfx 3 Tryz.f254 ⟨Z8y,trivial⟩
abbrev Zms:Shape:=⟨[(0,(.sl 0)),(1,(.fn 287 .nil (.cons (.ptr 1 []) .nil)))],bl_23,ts_26,0⟩
abbrev Zre:Shape:=⟨sl_2,bl_23,[(.int .i64),(.slice y7),(.int .i64)],2⟩
def Z79 (x:T19):Option (Int × List (T7) × Int) :=
 (loop Zb1 ((((List.length x.1):Nat):Int),0,x.1,x.2)).bind fun r23 =>
 match r23 with
 | .inl y24 =>
 some (y24.1,y24.2.1,y24.2.2)
 | .inr y24 =>
 some ((Int.negSucc 0),y24.1,y24.2)
abbrev Zvy:=Spec.shp Zms Zre Z79
def Zfw:Ctx:=mC [(287,[],Spec.shpR Znl Zs7 Z8w)] [(0,3,pieceSpec Ziz Zhy (loop Zb1))] 19 2
theorem Z7a:Sound Tryz.prog 254 (Zvy) :=
 tS Zfw Tryz.f254 ⟨Z8y,trivial⟩ ⟨(pL 3 Tryz.f254 Zb2),trivial⟩
abbrev Zit:Shape:=⟨[(0,(.sl 1)),(1,(.fn 287 .nil (.cons (.ptr 0 []) .nil))),(5,(.hole (.int .i64))),(6,(.hole (.int .i64)))],[.var (.hole (.int .i64)),.row y7],[(.int .i64),(.int .i64),(.int .i64),(.slice y7)],1⟩
abbrev Zhs:List (ETag × Shape):=[(.exit 0,⟨[(0,(.sl 1)),(5,(.hole (.int .i64)))],[.var (.hole (.int .i64)),.row y7],[(.int .i64),(.int .i64),(.slice y7)],1⟩)]
def Zap (x:(Int × Int × Int × List (T7))):Option ((Int × Int × Int × List (T7)) ⊕ (Int × Int × List (T7))) :=
 let q:=IntKind.wrap .i64;
 let p:=x.2.2;
 bif (decide (x.2.1 < (((List.length p.2):Nat):Int))) then
 bif (inb x.2.1 (List.length p.2)) then
 (Z8w ((getAt (0,0,0) p.2 (toN x.2.1)),p.1)).bind fun r24 =>
 bif (Bool.not r24.1) then
 bif (inb x.1 (List.length p.2)) then
 some (.inl ((q (x.1+1)),(q (x.2.1+1)),p.1,(List.set p.2 (toN x.1) (getAt (0,0,0) p.2 (toN x.2.1)))))
 else
 none
 else
 some (.inl (x.1,(q (x.2.1+1)),p.1,p.2))
 else
 none
 else
 some (.inr (x.1,p.1,p.2))
def Zfl:Ctx:=mC [(254,[2000000,287],Zvy),(287,[],Spec.shpR Znl Zs7 Z8w)] [] 42 1
theorem Zaq:CSound Tryz.prog ⟨42,1,true⟩ (.loop (loopOf 6 Tryz.f285)) (pieceSpec Zit Zhs (loop Zap)) :=
 tL Zfl 6 Tryz.f285 ⟨Z7a,Z8y,trivial⟩
abbrev Zmm:Shape:=⟨[(0,(.sl 1)),(1,(.fn 287 .nil (.cons (.ptr 0 []) .nil)))],[.var (.hole (.int .i64)),.row y7],[(.int .i64),(.slice y7)],0⟩
abbrev Zr8:Shape:=⟨[(0,(.hole (.slice y7)))],bl_16,ts_26,1⟩
def Z6x (x:T17):Option T19 :=
 (Z79 (x.2,x.1)).bind fun r22 =>
 bif (r22.1 == (Int.negSucc 0)) then
 some (r22.2.1,r22.2.2)
 else
 (loop Zap (r22.1,(IntKind.wrap .i64 (r22.1+1)),r22.2.2,r22.2.1)).bind fun r23 =>
 let p:=r23.2.2;
 bif (sub3 r23.1 (((List.length p):Nat):Int) (List.length p)) then
 bif (sub3 0 r23.1 (List.length (over p (List.replicate ((toN (((List.length p):Nat):Int)) - (toN r23.1)) (0,0,0)) (toN r23.1) ((toN (((List.length p):Nat):Int)) - (toN r23.1))))) then
 some ((cut (over p (List.replicate ((toN (((List.length p):Nat):Int)) - (toN r23.1)) (0,0,0)) (toN r23.1) ((toN (((List.length p):Nat):Int)) - (toN r23.1))) (toN 0) ((toN r23.1) - (toN 0))),r23.2.1)
 else
 none
 else
 none
abbrev Zvs:=Spec.shp Zmm Zr8 Z6x
def Zfk:Ctx:=mC [(254,[2000000,287],Zvy),(287,[],Spec.shpR Znl Zs7 Z8w)] [(0,6,pieceSpec Zit Zhs (loop Zap))] 42 1
theorem Z6y:Sound Tryz.prog 285 (Zvs) :=
 tS Zfk Tryz.f285 ⟨Z7a,Z8y,trivial⟩ ⟨(pL 6 Tryz.f285 Zaq),trivial⟩
abbrev Znk:Shape:=⟨sl_38,[],ts_26,0⟩
abbrev Zs6:Shape:=⟨sl_38,[],ts_26,0⟩
def Z8v (x:T19):Option T19 :=
 (Z97 x.1).bind fun r19 =>
 bif (Bool.not r19) then
 some (([]:List T7),1)
 else
 bif (decide (x.2 < 0)) then
 some (([]:List T7),1)
 else
 (Z6b x.1).bind fun r20 =>
 (Z6x (x.2,r20)).bind fun r21 =>
 some (r21.1,0)
abbrev Zwq:=Spec.shp Znk Zs6 Z8v
def Zgv:Ctx:=mC [(252,[],Zwv),(286,[],Zvh),(285,[2000000,287],Zvs)] [] 17 0
theorem Z8z:Sound Tryz.prog 255 (Zwq) :=
 tS Zgv Tryz.f255 ⟨Z9a,Z6c,Z6y,trivial⟩
abbrev Zl5:Shape:=⟨[(0,(.hole y34))],[],[y34],0⟩
abbrev Zpr:Shape:=⟨sl_1,[],ts_1,0⟩
def Z3z (x:T31):Option (Bool) :=
 bif (decide (x.2.1 < 0)) then
 some false
 else
 (Z97 x.2.2).bind fun r17 =>
 bif (Bool.not r17) then
 some false
 else
 bif (x.1 == 1) then
 (Z8v (x.2.2,x.2.1)).bind fun r18 =>
 some ((((List.length r18.1):Nat):Int) == (((List.length x.2.2):Nat):Int))
 else
 bif (x.1 == 0) then
 bif (x.2.1 == 0) then
 some ((((List.length x.2.2):Nat):Int) == 0)
 else
 some false
 else
 bif (x.1 == 2) then
 bif (x.2.1 == 0) then
 some ((((List.length x.2.2):Nat):Int) == 0)
 else
 some false
 else
 some false
abbrev Zuc:=Spec.shp Zl5 Zpr Z3z
def Zdt:Ctx:=mC [(252,[],Zwv),(255,[],Zwq)] [] 44 0
theorem Z40:Sound Tryz.prog 207 (Zuc) :=
 tS Zdt Tryz.f207 ⟨Z9a,Z8z,trivial⟩
abbrev Zie:Shape:=⟨[(7,(.fn 203 .nil (.cons (.ptr 0 []) .nil))),(122,(.hole y37)),(123,(.hole (.int .i64))),(124,(.hole (.int .i64)))],[.var (.hole y55)],[y37,(.int .i64),(.int .i64),y55],0⟩
abbrev Zhd:List (ETag × Shape):=[(.ret,⟨[(2,(.hole .bool))],[],ts_1,0⟩),(.exit 4,⟨[],[],[],0⟩)]
def Z9v (x:(List T31 × Int × Int × (T54 × T60))):Option ((List T31 × Int × Int × (T54 × T60)) ⊕ ((Bool) ⊕ Unit)) :=
 let p:=x.2.2;
 bif (decide (p.1 < x.2.1)) then
 bif (inb p.1 (List.length x.1)) then
 (Z3z (getAt (0,0,([]:List T7)) x.1 (toN p.1))).bind fun r16 =>
 bif (Bool.not r16) then
 some (.inr (.inl false))
 else
 (Z25 (7,p.1,p.2)).bind fun r17 =>
 (Z6n ((getAt (0,0,([]:List T7)) x.1 (toN p.1)).2.2,r17.1,r17.2.1,r17.2.2)).bind fun r18 =>
 bif r18.1 then
 some (.inr (.inl false))
 else
 some (.inl (x.1,x.2.1,(IntKind.wrap .i64 (p.1+1)),r18.2.1))
 else
 none
 else
 some (.inr (.inr ()))
def Zcq:Ctx:=mC [(95,[],Zuj),(194,[196],Zvk),(201,[],Zsk),(198,[],Zte),(202,[199],Zvm),(206,[],Zt3),(203,[],Ztg),(202,[204],Zvn),(207,[],Zuc)] [(0,8,pieceSpec Zif Zhe (loop Z9x)),(0,16,pieceSpec Zid Zhc (loop Z9t))] 141 0
theorem Z9w:CSound Tryz.prog ⟨141,0,true⟩ (.loop (loopOf 22 Tryz.f132)) (pieceSpec Zie Zhd (loop Z9v)) :=
 tL Zcq 22 Tryz.f132 ⟨Z4e,Z6i,Zb,Z24,Z6m,Z1h,Z28,Z6o,Z40,trivial⟩ ⟨pN,pN,trivial⟩
abbrev Zk5:Shape:=⟨[(0,(.hole y55))],[],[y55],0⟩
abbrev Zor:Shape:=⟨sl_1,[],ts_1,0⟩
def Z1y (x:(T54 × T60)):Option (Bool) :=
 let p:=x.2.2;
 (Z4d x.1).bind fun r9 =>
 bif (Bool.not r9) then
 some false
 else
 bif (decide ((((List.length x.2.1):Nat):Int) < 1)) then
 some false
 else
 bif (decide ((((List.length x.2.1):Nat):Int) > 8)) then
 some false
 else
 bif ((((List.length p.1):Nat):Int) != (((List.length x.1.1):Nat):Int)) then
 some false
 else
 bif ((((List.length p.2.1):Nat):Int) != x.1.2.1) then
 some false
 else
 bif ((((List.length p.2.2.1):Nat):Int) != x.1.2.2.1) then
 some false
 else
 bif (decide (p.2.2.2.1 < 0)) then
 some false
 else
 (Z6h (x.2.1,x.1)).bind fun r10 =>
 bif r10.1 then
 some false
 else
 (loop Z9x (p.1,(((List.length p.1):Nat):Int),0,x,r10.2)).bind fun r11 =>
 match r11 with
 | .inl y12 =>
 some y12
 | .inr y12 =>
 (loop Z9t (y12.2.2.2.1,(((List.length y12.2.2.2.1):Nat):Int),0,y12)).bind fun r13 =>
 match r13 with
 | .inl y14 =>
 some y14
 | .inr y14 =>
 (loop Z9v (y14.2.2.2.2.1,(((List.length y14.2.2.2.2.1):Nat):Int),0,y14)).bind fun r15 =>
 match r15 with
 | .inl y16 =>
 some y16
 | .inr y16 =>
 some true
abbrev Ztc:=Spec.shp Zk5 Zor Z1y
def Zcm:Ctx:=mC [(95,[],Zuj),(194,[196],Zvk),(201,[],Zsk),(198,[],Zte),(202,[199],Zvm),(206,[],Zt3),(203,[],Ztg),(202,[204],Zvn),(207,[],Zuc)] [(0,8,pieceSpec Zif Zhe (loop Z9x)),(0,16,pieceSpec Zid Zhc (loop Z9t)),(0,22,pieceSpec Zie Zhd (loop Z9v))] 141 0
theorem Z29:Sound Tryz.prog 132 (Ztc) :=
 tS Zcm Tryz.f132 ⟨Z4e,Z6i,Zb,Z24,Z6m,Z1h,Z28,Z6o,Z40,trivial⟩ ⟨(pL 8 Tryz.f132 Z9y),(pL 16 Tryz.f132 Z9u),(pL 22 Tryz.f132 Z9w),trivial⟩
abbrev Zjh:Shape:=⟨sl_4,bl_24,[y52],0⟩
abbrev Zo3:Shape:=⟨sl_1,bl_24,[.bool,y52],1⟩
def Zl (x:(T53)):Option (Bool × T53) :=
 some ((decide (x.1.1 < 0)),x)
abbrev Zsp:=Spec.shp Zjh Zo3 Zl
def Zbs:Ctx:=mC [] [] 9 1
theorem Zm:Sound Tryz.prog 256 (Zsp) :=
 tS Zbs Tryz.f256 trivial
theorem Zn:Sound Tryz.prog 256 (Spec.shpR Zjh Zo3 Zl) :=
 Sound.shpR (fun x y h=>by have h:=Option.some.inj h; subst h; rfl) Zm
abbrev Zjg:Shape:=⟨sl_4,bl_24,[y52],0⟩
abbrev Zo2:Shape:=⟨sl_1,bl_24,[.bool,y52],1⟩
def Zi (x:(T53)):Option (Bool × T53) :=
 some ((x.1.2.2.1.2.2.2 == x.1.2.2.1.1),x)
abbrev Zso:=Spec.shp Zjg Zo2 Zi
def Zbr:Ctx:=mC [] [] 16 1
theorem Zj:Sound Tryz.prog 257 (Zso) :=
 tS Zbr Tryz.f257 trivial
theorem Zk:Sound Tryz.prog 257 (Spec.shpR Zjg Zo2 Zi) :=
 Sound.shpR (fun x y h=>by have h:=Option.some.inj h; subst h; rfl) Zj
abbrev Znn:Shape:=⟨[(0,(.hole y7)),(1,(.ptr 0 []))],bl_16,[y7,(.int .i64)],0⟩
abbrev Zs9:Shape:=⟨sl_1,bl_16,ts_15,1⟩
def Z91 (x:(T7 × Int)):Option T1 :=
 some ((x.1.1 != x.2),x.2)
abbrev Zwt:=Spec.shp Znn Zs9 Z91
def Zgy:Ctx:=mC [] [] 8 1
theorem Z92:Sound Tryz.prog 297 (Zwt) :=
 tS Zgy Tryz.f297 trivial
theorem Z93:Sound Tryz.prog 297 (Spec.shpR Znn Zs9 Z91) :=
 Sound.shpR (fun x y h=>by have h:=Option.some.inj h; subst h; rfl) Z92
abbrev Zj0:Shape:=⟨[(0,(.hole (.slice y7))),(1,(.fn 297 .nil (.cons (.ptr 0 []) .nil))),(7,(.hole (.int .i64))),(8,(.hole (.int .i64)))],bl_16,[(.slice y7),(.int .i64),(.int .i64),(.int .i64)],1⟩
abbrev Zhz:List (ETag × Shape):=[(.ret,⟨sl_3,bl_16,ts_8,1⟩),(.exit 0,⟨[],bl_16,ts_2,1⟩)]
def Zb3 (x:(List (T7) × Int × Int × Int)):Option ((List (T7) × Int × Int × Int) ⊕ ((Int × Int) ⊕ (Int))) :=
 let p:=x.2.2;
 bif (decide (p.1 < x.2.1)) then
 bif (inb p.1 (List.length x.1)) then
 (Z91 ((getAt (0,0,0) x.1 (toN p.1)),p.2)).bind fun r21 =>
 bif r21.1 then
 some (.inr (.inl (p.1,p.2)))
 else
 some (.inl (x.1,x.2.1,(IntKind.wrap .i64 (p.1+1)),p.2))
 else
 none
 else
 some (.inr (.inr p.2))
def Zfz:Ctx:=mC [(297,[],Spec.shpR Znn Zs9 Z91)] [] 19 1
theorem Zb4:CSound Tryz.prog ⟨19,1,true⟩ (.loop (loopOf 3 Tryz.f254)) (pieceSpec Zj0 Zhz (loop Zb3)) :=
 tL Zfz 3 Tryz.f254 ⟨Z93,trivial⟩
abbrev Zmt:Shape:=⟨[(0,(.hole (.slice y7))),(1,(.fn 297 .nil (.cons (.ptr 0 []) .nil)))],bl_16,ts_26,0⟩
abbrev Zrf:Shape:=⟨sl_2,bl_16,ts_8,1⟩
def Z7b (x:T19):Option (Int × Int) :=
 (loop Zb3 (x.1,(((List.length x.1):Nat):Int),0,x.2)).bind fun r20 =>
 match r20 with
 | .inl y21 =>
 some (y21.1,y21.2)
 | .inr y21 =>
 some ((Int.negSucc 0),y21)
abbrev Zvz:=Spec.shp Zmt Zrf Z7b
def Zfy:Ctx:=mC [(297,[],Spec.shpR Znn Zs9 Z91)] [(0,3,pieceSpec Zj0 Zhz (loop Zb3))] 19 1
theorem Z7c:Sound Tryz.prog 254 (Zvz) :=
 tS Zfy Tryz.f254 ⟨Z93,trivial⟩ ⟨(pL 3 Tryz.f254 Zb4),trivial⟩
abbrev Znm:Shape:=⟨sl_38,[],ts_26,0⟩
abbrev Zs8:Shape:=⟨[(0,(.hole y7)),(1,(.hole (.int .i64)))],[],[y7,(.int .i64)],0⟩
def Z90 (x:T19):Option (T7 × Int) :=
 (Z97 x.1).bind fun r18 =>
 bif (Bool.not r18) then
 some ((0,0,0),1)
 else
 bif (decide (x.2 < 0)) then
 some ((0,0,0),1)
 else
 (Z7b (x.1,x.2)).bind fun r19 =>
 bif (decide (r19.1 < 0)) then
 some ((0,0,0),4)
 else
 bif (inb r19.1 (List.length x.1)) then
 some ((getAt (0,0,0) x.1 (toN r19.1)),0)
 else
 none
abbrev Zws:=Spec.shp Znm Zs8 Z90
def Zgx:Ctx:=mC [(252,[],Zwv),(254,[297],Zvz)] [] 25 0
theorem Z94:Sound Tryz.prog 288 (Zws) :=
 tS Zgx Tryz.f288 ⟨Z9a,Z7c,trivial⟩
abbrev Zjj:Shape:=⟨[(0,(.ptr 0 [])),(1,(.hole (.slice y7)))],bl_24,[(.slice y7),y52],0⟩
abbrev Zo5:Shape:=⟨[(0,(.hole y7))],bl_24,[y7,y52],1⟩
def Zq (x:(List (T7) × T53)):Option (T7 × T53) :=
 (Z90 (x.1,x.2.2)).bind fun r17 =>
 bif (r17.2 != 0) then
 bif ((r17.1.1 == (0,0,0).1) && ((r17.1.2.1 == (0,0,0).2.1) && (r17.1.2.2 == (0,0,0).2.2))) then
 some (((Int.negSucc 0),0,0),x.2)
 else
 some (r17.1,x.2)
 else
 some (r17.1,x.2)
abbrev Zsr:=Spec.shp Zjj Zo5 Zq
def Zbu:Ctx:=mC [(288,[],Zws)] [] 27 1
theorem Zr:Sound Tryz.prog 258 (Zsr) :=
 tS Zbu Tryz.f258 ⟨Z94,trivial⟩
abbrev Zja:Shape:=⟨[(0,(.hole y50)),(1,(.hole .bool)),(2,(.hole (.int .i64)))],[],[y50,.bool,(.int .i64)],0⟩
abbrev Znw:Shape:=⟨sl_15,[],ts_15,0⟩
def Z6 (x:((Int × T48) × Bool × Int)):Option T1 :=
 (Za x.1).bind fun r13 =>
 bif (Bool.not r13) then
 some (false,1)
 else
 bif (decide (x.2.2 < 0)) then
 some (false,1)
 else
 (Zl (x.1,x.2.2)).bind fun r14 =>
 bif r14.1 then
 some (false,0)
 else
 bif x.1.2.1 then
 some (true,0)
 else
 bif x.2.1 then
 (Zi (x.1,x.2.2)).bind fun r15 =>
 bif (Bool.not r15.1) then
 some (true,0)
 else
 (Zq (x.1.2.2.2.2.2.2,x.1,x.2.2)).bind fun r16 =>
 some ((r16.1.1 != (Int.negSucc 0)),0)
 else
 bif (decide (x.1.2.2.1.2.2.2 > 0)) then
 some (true,0)
 else
 (Zq (x.1.2.2.2.2.2.1,x.1,x.2.2)).bind fun r15 =>
 some ((r15.1.1 != (Int.negSucc 0)),0)
abbrev Zsi:=Spec.shp Zja Znw Z6
def Zbk:Ctx:=mC [(201,[],Zsk),(256,[],Spec.shpR Zjh Zo3 Zl),(257,[],Spec.shpR Zjg Zo2 Zi),(258,[],Zsr)] [] 63 0
theorem Z7:Sound Tryz.prog 208 (Zsi) :=
 tS Zbk Tryz.f208 ⟨Zb,Zn,Zk,Zr,trivial⟩
abbrev Zic:Shape:=⟨[(1,(.hole (.int .i64))),(2,(.ptr 0 [])),(7,(.sl 1)),(38,(.hole (.slice y5))),(39,(.hole (.int .i64))),(40,(.hole (.int .i64)))],[.var (.hole y55),.row y6],[(.int .i64),(.slice y5),(.int .i64),(.int .i64),y55,(.slice y6)],0⟩
abbrev Zhb:List (ETag × Shape):=[(.exit 0,⟨[(7,(.sl 0))],[.row y6],[(.slice y6)],0⟩)]
def Z9r (x:(Int × List T1 × Int × Int × (T54 × T60) × List (Int × Int))):Option ((Int × List T1 × Int × Int × (T54 × T60) × List (Int × Int)) ⊕ (T5)) :=
 let q:=IntKind.wrap .i64;
 let p:=x.2.2.2;
 bif (decide (p.1 < x.2.2.1)) then
 bif (inb p.1 (List.length x.2.1)) then
 bif (inb (getAt (false,0) x.2.1 (toN p.1)).2 (List.length p.2.1.2.2.1)) then
 (Z6 ((getAt (0,false,(0,0,([]:List Int),0),0,0,([]:List T7),([]:List T7)) p.2.1.2.2.1 (toN (getAt (false,0) x.2.1 (toN p.1)).2)),(getAt (false,0) x.2.1 (toN p.1)).1,x.1)).bind fun r12 =>
 bif r12.1 then
 bif (fits ((List.length p.2.2)+(List.length ((x.1,p.1) :: ([]:List (Int × Int)))))) then
 some (.inl (x.1,x.2.1,x.2.2.1,(q (p.1+1)),p.2.1,(p.2.2++((x.1,p.1) :: ([]:List (Int × Int))))))
 else
 none
 else
 some (.inl (x.1,x.2.1,x.2.2.1,(q (p.1+1)),p.2.1,p.2.2))
 else
 none
 else
 none
 else
 some (.inr p.2.2)
def Zcl:Ctx:=mC [(208,[],Zsi)] [] 67 0
theorem Z9s:CSound Tryz.prog ⟨67,0,true⟩ (.loop (loopOf 8 Tryz.f133)) (pieceSpec Zic Zhb (loop Z9r)) :=
 tL Zcl 8 Tryz.f133 ⟨Z7,trivial⟩
abbrev Zk4:Shape:=⟨[(0,(.hole y55)),(1,(.hole (.int .i64)))],[],[y55,(.int .i64)],0⟩
abbrev Zoq:Shape:=⟨[(0,(.hole (.slice y6)))],[],[(.slice y6)],0⟩
def Z1w (x:((T54 × T60) × Int)):Option T5 :=
 let p:=(getAt ((0:Int),(0:Int),(0:Int)) (getAt ([]:List T7) x.1.1.2.2.2.2.2 (toN (getAt ((0:Int),(0:Int),(0:Int),false) x.1.2.1 (toN x.2)).1)) (toN (getAt ((0:Int),(0:Int),(0:Int),false) x.1.2.1 (toN x.2)).2.1));
 bif (inb x.2 (List.length x.1.2.1)) then
 bif (inb (getAt (0,0,0,false) x.1.2.1 (toN x.2)).1 (List.length x.1.1.2.2.2.2.2)) then
 bif (inb (getAt (0,0,0,false) x.1.2.1 (toN x.2)).2.1 (List.length (getAt ([]:List T7) x.1.1.2.2.2.2.2 (toN (getAt (0,0,0,false) x.1.2.1 (toN x.2)).1)))) then
 bif (p.1 != 4) then
 some ([]:List (Int × Int))
 else
 bif (inb p.2.1 (List.length x.1.1.2.2.2.2.1)) then
 (loop Z9r (x.2,(getAt (([]:List T1),false) x.1.1.2.2.2.2.1 (toN p.2.1)).1,(((List.length (getAt (([]:List T1),false) x.1.1.2.2.2.2.1 (toN p.2.1)).1):Nat):Int),0,x.1,([]:List (Int × Int)))).bind fun r11 =>
 some r11
 else
 none
 else
 none
 else
 none
 else
 none
abbrev Ztb:=Spec.shp Zk4 Zoq Z1w
def Zck:Ctx:=mC [(208,[],Zsi)] [(0,8,pieceSpec Zic Zhb (loop Z9r))] 67 0
theorem Z1x:Sound Tryz.prog 133 (Ztb) :=
 tS Zck Tryz.f133 ⟨Z7,trivial⟩ ⟨(pL 8 Tryz.f133 Z9s),trivial⟩
abbrev Zia:Shape:=⟨[(1,(.ptr 0 [])),(3,(.sl 1)),(16,(.hole y28)),(17,(.hole (.int .i64))),(18,(.hole (.int .i64)))],[.var (.hole y55),.row y6],[y28,(.int .i64),(.int .i64),y55,(.slice y6)],0⟩
abbrev Zh9:List (ETag × Shape):=[(.exit 0,⟨[(3,(.sl 0))],[.row y6],[(.slice y6)],0⟩)]
def Z9n (x:(List (T23) × Int × Int × (T54 × T60) × List (Int × Int))):Option ((List (T23) × Int × Int × (T54 × T60) × List (Int × Int)) ⊕ (T5)) :=
 let s:=IntKind.wrap .i64;
 let p:=x.2.2;
 let q:=p.2.2;
 bif (decide (p.1 < x.2.1)) then
 bif (inb p.1 (List.length x.1)) then
 bif ((getAt (0,0,0,false) x.1 (toN p.1)).2.2.1 != 0) then
 some (.inl (x.1,x.2.1,(s (p.1+1)),p.2.1,q))
 else
 (Z1w (p.2.1,p.1)).bind fun r10 =>
 bif ((((List.length r10):Nat):Int) == 0) then
 bif (fits ((List.length q)+(List.length ((p.1,(Int.negSucc 0)) :: ([]:List (Int × Int)))))) then
 some (.inl (x.1,x.2.1,(s (p.1+1)),p.2.1,(q++((p.1,(Int.negSucc 0)) :: ([]:List (Int × Int))))))
 else
 none
 else
 bif (fits ((List.length q)+(List.length r10))) then
 some (.inl (x.1,x.2.1,(s (p.1+1)),p.2.1,(q++r10)))
 else
 none
 else
 none
 else
 some (.inr q)
def Zce:Ctx:=mC [(132,[],Ztc),(133,[],Ztb)] [] 40 0
theorem Z9o:CSound Tryz.prog ⟨40,0,true⟩ (.loop (loopOf 6 Tryz.f98)) (pieceSpec Zia Zh9 (loop Z9n)) :=
 tL Zce 6 Tryz.f98 ⟨Z29,Z1x,trivial⟩
abbrev Zjz:Shape:=⟨[(0,(.hole y55))],[],[y55],0⟩
abbrev Zol:Shape:=⟨[(0,(.hole (.slice y6)))],[],[(.slice y6)],0⟩
def Z1m (x:(T54 × T60)):Option T5 :=
 (Z1y x).bind fun r8 =>
 bif (Bool.not r8) then
 some ([]:List (Int × Int))
 else
 bif (x.2.2.2.2.2.2 != 0) then
 some ([]:List (Int × Int))
 else
 (loop Z9n (x.2.1,(((List.length x.2.1):Nat):Int),0,x,([]:List (Int × Int)))).bind fun r9 =>
 some r9
abbrev Zt6:=Spec.shp Zjz Zol Z1m
def Zcd:Ctx:=mC [(132,[],Ztc),(133,[],Ztb)] [(0,6,pieceSpec Zia Zh9 (loop Z9n))] 40 0
theorem Z1n:Sound Tryz.prog 98 (Zt6) :=
 tS Zcd Tryz.f98 ⟨Z29,Z1x,trivial⟩ ⟨(pL 6 Tryz.f98 Z9o),trivial⟩
abbrev Zm4:Shape:=⟨sl_6,[.var (.hole (.one y1))],[(.int .i64),(.one y1)],0⟩
abbrev Zqq:Shape:=⟨sl_2,[.var (.hole (.one y1))],[(.int .i64),(.one y1)],1⟩
def Z5x (x:T2):Option T2 :=
 bif ((((List.length x.2):Nat):Int) == 0) then
 some (0,x.2)
 else
 bif (inb 0 (List.length x.2)) then
 bif (x.1 != 0) then
 bif (sub3 1 (((List.length x.2):Nat):Int) (List.length x.2)) then
 bif (decide ((Int.tmod (getAt 0 x.2 (toN 0)) x.1) < 0)) then
 some ((IntKind.wrap .i64 ((Int.tmod (getAt 0 x.2 (toN 0)) x.1)+x.1)),(cut x.2 (toN 1) ((toN (((List.length x.2):Nat):Int)) - (toN 1))))
 else
 some ((Int.tmod (getAt 0 x.2 (toN 0)) x.1),(cut x.2 (toN 1) ((toN (((List.length x.2):Nat):Int)) - (toN 1))))
 else
 none
 else
 none
 else
 none
abbrev Zva:=Spec.shp Zm4 Zqq Z5x
def Zf1:Ctx:=mC [] [] 34 1
theorem Z5y:Sound Tryz.prog 58 (Zva) :=
 tS Zf1 Tryz.f58 trivial
abbrev Zj4:Shape:=⟨[(0,(.hole (.slice y6))),(3,(.ptr 0 [])),(7,(.hole (.int .i64))),(8,(.hole (.int .i64)))],[.var (.hole y6)],[(.slice y6),(.int .i64),(.int .i64),y6],0⟩
abbrev Zi3:List (ETag × Shape):=[(.ret,⟨sl_3,[],ts_2,0⟩),(.exit 0,⟨[],[],[],0⟩)]
def Zbb (x:(List (Int × Int) × Int × Int × (Int × Int))):Option ((List (Int × Int) × Int × Int × (Int × Int)) ⊕ ((Int) ⊕ Unit)) :=
 let p:=x.2.2;
 bif (decide (p.1 < x.2.1)) then
 bif (inb p.1 (List.length x.1)) then
 bif ((p.2.1 == (getAt (0,0) x.1 (toN p.1)).1) && (p.2.2 == (getAt (0,0) x.1 (toN p.1)).2)) then
 some (.inr (.inl p.1))
 else
 some (.inl (x.1,x.2.1,(IntKind.wrap .i64 (p.1+1)),p.2))
 else
 none
 else
 some (.inr (.inr ()))
def Zg7:Ctx:=mC [] [] 19 0
theorem Zbc:CSound Tryz.prog ⟨19,0,true⟩ (.loop (loopOf 3 Tryz.f209)) (pieceSpec Zj4 Zi3 (loop Zbb)) :=
 tL Zg7 3 Tryz.f209 trivial
abbrev Zmx:Shape:=⟨[(0,(.hole (.slice y6))),(1,(.hole y6))],[],[(.slice y6),y6],0⟩
abbrev Zrj:Shape:=⟨sl_2,[],ts_2,0⟩
def Z7j (x:(List (Int × Int) × (Int × Int))):Option (Int) :=
 (loop Zbb (x.1,(((List.length x.1):Nat):Int),0,x.2)).bind fun r13 =>
 match r13 with
 | .inl y14 =>
 some y14
 | .inr y14 =>
 some (Int.negSucc 0)
abbrev Zw3:=Spec.shp Zmx Zrj Z7j
def Zg6:Ctx:=mC [] [(0,3,pieceSpec Zj4 Zi3 (loop Zbb))] 19 0
theorem Z7k:Sound Tryz.prog 209 (Zw3) :=
 tS Zg6 Tryz.f209 trivial ⟨(pL 3 Tryz.f209 Zbc),trivial⟩
abbrev Zml:Shape:=⟨[(0,(.hole (.slice y6))),(1,(.hole y6))],[],[(.slice y6),y6],0⟩
abbrev Zr7:Shape:=⟨sl_1,[],ts_1,0⟩
def Z6v (x:(List (Int × Int) × (Int × Int))):Option (Bool) :=
 (Z7j (x.1,x.2)).bind fun r12 =>
 some (decide (r12 ≥ 0))
abbrev Zvr:=Spec.shp Zml Zr7 Z6v
def Zfj:Ctx:=mC [(209,[],Zw3)] [] 9 0
theorem Z6w:Sound Tryz.prog 134 (Zvr) :=
 tS Zfj Tryz.f134 ⟨Z7k,trivial⟩
abbrev Zm8:Shape:=⟨[(0,(.hole y28))],[],[y28],0⟩
abbrev Zqu:Shape:=⟨[(0,(.sl 0))],[.row y21],[y28],0⟩
def Z65 (x:(List (T23))):Option (List (T23)) :=
 bif (Nat.beq (List.length x) (0:Nat)) then
 amb (
 some ([]:List T23)) (
 bif (fits ((List.length ([]:List T23))+(List.length x))) then
 some (([]:List T23)++x)
 else
 none)
 else
 bif (fits ((List.length ([]:List T23))+(List.length x))) then
 some (([]:List T23)++x)
 else
 none
abbrev Zve:=Spec.shp Zm8 Zqu Z65
def Zf6:Ctx:=mC [] [] 8 0
theorem Z66:Sound Tryz.prog 135 (Zve) :=
 tS Zf6 Tryz.f135 trivial
abbrev Zm6:Shape:=⟨[(0,(.hole y51))],[],[y51],0⟩
abbrev Zqs:Shape:=⟨[(0,(.sl 0))],[.row y50],[y51],0⟩
def Z61 (x:(List T51)):Option (List T51) :=
 bif (Nat.beq (List.length x) (0:Nat)) then
 amb (
 some ([]:List (Int × T49))) (
 bif (fits ((List.length ([]:List (Int × T49)))+(List.length x))) then
 some (([]:List (Int × T49))++x)
 else
 none)
 else
 bif (fits ((List.length ([]:List (Int × T49)))+(List.length x))) then
 some (([]:List (Int × T49))++x)
 else
 none
abbrev Zvc:=Spec.shp Zm6 Zqs Z61
def Zf4:Ctx:=mC [] [] 8 0
theorem Z62:Sound Tryz.prog 136 (Zvc) :=
 tS Zf4 Tryz.f136 trivial
abbrev Zm9:Shape:=⟨[(0,(.hole y29))],[],[y29],0⟩
abbrev Zqv:Shape:=⟨[(0,(.sl 0))],[.row y24],[y29],0⟩
def Z67 (x:(List (T24))):Option (List (T24)) :=
 bif (Nat.beq (List.length x) (0:Nat)) then
 amb (
 some ([]:List T26)) (
 bif (fits ((List.length ([]:List T26))+(List.length x))) then
 some (([]:List T26)++x)
 else
 none)
 else
 bif (fits ((List.length ([]:List T26))+(List.length x))) then
 some (([]:List T26)++x)
 else
 none
abbrev Zvf:=Spec.shp Zm9 Zqv Z67
def Zf7:Ctx:=mC [] [] 8 0
theorem Z68:Sound Tryz.prog 137 (Zvf) :=
 tS Zf7 Tryz.f137 trivial
abbrev Zma:Shape:=⟨[(0,(.hole y37))],[],[y37],0⟩
abbrev Zqw:Shape:=⟨[(0,(.sl 0))],[.row y34],[y37],0⟩
def Z69 (x:(List T31)):Option (List T31) :=
 bif (Nat.beq (List.length x) (0:Nat)) then
 amb (
 some ([]:List (Int × T18))) (
 bif (fits ((List.length ([]:List (Int × T18)))+(List.length x))) then
 some (([]:List (Int × T18))++x)
 else
 none)
 else
 bif (fits ((List.length ([]:List (Int × T18)))+(List.length x))) then
 some (([]:List (Int × T18))++x)
 else
 none
abbrev Zvg:=Spec.shp Zma Zqw Z69
def Zf8:Ctx:=mC [] [] 8 0
theorem Z6a:Sound Tryz.prog 138 (Zvg) :=
 tS Zf8 Tryz.f138 trivial
abbrev Zkh:Shape:=⟨sl_6,bl_15,ts_24,0⟩
abbrev Zp3:Shape:=⟨[(0,(.hole y7))],bl_15,[y7,y49,y6,y28,y51,y29,y37,y36],1⟩
def Z2m (x:T58):Option (T7 × T54 × (Int × Int) × List (T23) × List T51 × List (T24) × List T31 × List (T20)) :=
 let p:=x.2.2.2;
 bif (inb x.1 (List.length p.1)) then
 bif (inb (getAt (0,0,0,false) p.1 (toN x.1)).1 (List.length x.2.1.2.2.2.2.2)) then
 bif (inb (getAt (0,0,0,false) p.1 (toN x.1)).2.1 (List.length (getAt ([]:List T7) x.2.1.2.2.2.2.2 (toN (getAt (0,0,0,false) p.1 (toN x.1)).1)))) then
 some ((getAt (0,0,0) (getAt ([]:List T7) x.2.1.2.2.2.2.2 (toN (getAt (0,0,0,false) p.1 (toN x.1)).1)) (toN (getAt (0,0,0,false) p.1 (toN x.1)).2.1)),x.2.1,x.2.2.1,p.1,p.2.1,p.2.2.1,p.2.2.2.1,p.2.2.2.2)
 else
 none
 else
 none
 else
 none
abbrev Zto:=Spec.shp Zkh Zp3 Z2m
def Zd3:Ctx:=mC [] [] 28 1
theorem Z2n:Sound Tryz.prog 153 (Zto) :=
 tS Zd3 Tryz.f153 trivial
abbrev Zkf:Shape:=⟨sl_6,bl_15,ts_24,0⟩
abbrev Zp1:Shape:=⟨[],bl_15,ts_25,1⟩
def Z2i (x:T58):Option T57 :=
 let p:=x.2.2.2;
 bif (inb x.1 (List.length p.1)) then
 (Z2k (x.1,(IntKind.wrap .i64 ((getAt (0,0,0,false) p.1 (toN x.1)).2.1+1)),x.2.1,x.2.2.1,p.1,p.2.1,p.2.2.1,p.2.2.2.1,p.2.2.2.2)).bind fun r19 =>
 let q:=r19.2.2;
 some (r19.1,r19.2.1,q.1,q.2.1,q.2.2.1,q.2.2.2.1,q.2.2.2.2)
 else
 none
abbrev Ztm:=Spec.shp Zkf Zp1 Z2i
def Zd1:Ctx:=mC [(130,[],Ztn)] [] 17 1
theorem Z2j:Sound Tryz.prog 210 (Ztm) :=
 tS Zd1 Tryz.f210 ⟨Z2l,trivial⟩
abbrev Zkl:Shape:=⟨sl_39,bl_15,ts_27,0⟩
abbrev Zp7:Shape:=⟨[],bl_15,ts_25,1⟩
def Z2u (x:T59):Option T57 :=
 let p:=x.2.2.2.2;
 (Z2i (x.1.1,x.2.2.1,x.2.2.2.1,p.1,p.2.1,p.2.2.1,p.2.2.2.1,p.2.2.2.2)).bind fun r18 =>
 let q:=r18.2.2;
 some (r18.1,r18.2.1,q.1,q.2.1,q.2.2.1,q.2.2.2.1,q.2.2.2.2)
abbrev Zts:=Spec.shp Zkl Zp7 Z2u
def Zd7:Ctx:=mC [(210,[],Ztm)] [] 10 1
theorem Z2v:Sound Tryz.prog 139 (Zts) :=
 tS Zd7 Tryz.f139 ⟨Z2j,trivial⟩
abbrev Zje:Shape:=⟨[(0,(.hole y7))],[],[y7],0⟩
abbrev Zo0:Shape:=⟨sl_1,[],ts_1,0⟩
def Ze (x:(T7)):Option (Bool) :=
 bif (decide (x.1 ≥ 0)) then
 bif (decide (x.2.1 ≥ 0)) then
 some (decide (x.2.2 ≥ 0))
 else
 some false
 else
 some false
abbrev Zsm:=Spec.shp Zje Zo0 Ze
def Zbo:Ctx:=mC [] [] 16 0
theorem Zf:Sound Tryz.prog 290 (Zsm) :=
 tS Zbo Tryz.f290 trivial
abbrev Zji:Shape:=⟨sl_6,bl_24,[(.int .i64),y52],0⟩
abbrev Zo4:Shape:=⟨[],bl_24,[y52],1⟩
def Zo (x:(Int × T53)):Option (T53) :=
 (Z8v (x.2.1.2.2.2.2.2.1,x.1)).bind fun r27 =>
 (Z8v (x.2.1.2.2.2.2.2.2,x.1)).bind fun r28 =>
 some ((x.2.1.1,x.2.1.2.1,x.2.1.2.2.1,x.2.1.2.2.2.1,x.2.1.2.2.2.2.1,r27.1,r28.1),x.2.2)
abbrev Zsq:=Spec.shp Zji Zo4 Zo
def Zbt:Ctx:=mC [(255,[],Zwq)] [] 32 1
theorem Zp:Sound Tryz.prog 289 (Zsq) :=
 tS Zbt Tryz.f289 ⟨Z8z,trivial⟩
abbrev Zjk:Shape:=⟨sl_4,bl_24,[y52],0⟩
abbrev Zo6:Shape:=⟨sl_2,bl_24,[(.int .i64),y52],1⟩
def Zs (x:(T53)):Option (Int × T53) :=
 let p:=IntKind.wrap .i64;
 some (x.1.2.2.2.1,(x.1.1,x.1.2.1,x.1.2.2.1,(p (x.1.2.2.2.1+1)),(p (x.1.2.2.2.2.1+1)),x.1.2.2.2.2.2),x.2)
abbrev Zss:=Spec.shp Zjk Zo6 Zs
def Zbv:Ctx:=mC [] [] 28 1
theorem Zt:Sound Tryz.prog 293 (Zss) :=
 tS Zbv Tryz.f293 trivial
abbrev Zm1:Shape:=⟨[(0,(.one (.pr (.hole (.int .i64)) (.pr (.hole (.int .i64)) (.pr (.sl 0) (.hole (.int .i64))))))),(1,(.hole (.int .i64)))],bl_9,[(.int .i64),(.int .i64),(.int .i64),(.int .i64),y1],0⟩
abbrev Zqn:Shape:=⟨sl_2,bl_9,ts_11,1⟩
def Z5q (x:(Int × Int × Int × Int × List Int)):Option T2 :=
 bif (x.1 != 0) then
 some ((Int.tmod (IntKind.wrap .i64 (x.2.1+x.2.2.2.1)) x.1),x.2.2.2.2)
 else
 none
abbrev Zv7:=Spec.shp Zm1 Zqn Z5q
def Zey:Ctx:=mC [] [] 14 1
theorem Z5r:Sound Tryz.prog 296 (Zv7) :=
 tS Zey Tryz.f296 trivial
abbrev Zlw:Shape:=⟨sl_30,[],[y32,(.int .i64)],0⟩
abbrev Zqi:Shape:=⟨sl_30,[],[y32,(.int .i64)],0⟩
def Z5h (x:(T22 × Int)):Option (T22 × Int) :=
 (Z5j x.1).bind fun r29 =>
 bif (Bool.not r29) then
 some ((0,0,([]:List Int),0),1)
 else
 bif (x.1.2.2.2 == x.1.1) then
 some ((0,0,([]:List Int),0),5)
 else
 (Z6d x.1.2.2.1).bind fun r30 =>
 (Z5q (x.1.1,x.1.2.1,x.1.2.2.2,x.1.2.2.2,r30)).bind fun r31 =>
 bif (inb r31.1 (List.length r31.2)) then
 some ((x.1.1,x.1.2.1,(List.set r31.2 (toN r31.1) x.2),(IntKind.wrap .i64 (x.1.2.2.2+1))),0)
 else
 none
abbrev Zv2:=Spec.shp Zlw Zqi Z5h
def Zes:Ctx:=mC [(280,[],Zv3),(178,[],Zvi),(296,[2000000],Zv7)] [] 38 0
theorem Z5i:Sound Tryz.prog 299 (Zv2) :=
 tS Zes Tryz.f299 ⟨Z5k,Z6e,Z5r,trivial⟩
abbrev Zjm:Shape:=⟨sl_4,bl_24,[y52],0⟩
abbrev Zo8:Shape:=⟨sl_2,bl_24,[(.int .i64),y52],1⟩
def Zw (x:(T53)):Option (Int × T53) :=
 (Z5h (x.1.2.2.1,x.1.2.2.2.1)).bind fun r28 =>
 some (x.1.2.2.2.1,(x.1.1,x.1.2.1,r28.1,(IntKind.wrap .i64 (x.1.2.2.2.1+1)),x.1.2.2.2.2),x.2)
abbrev Zsu:=Spec.shp Zjm Zo8 Zw
def Zbx:Ctx:=mC [(299,[],Zv2)] [] 33 1
theorem Zx:Sound Tryz.prog 292 (Zsu) :=
 tS Zbx Tryz.f292 ⟨Z5i,trivial⟩
abbrev Zno:Shape:=⟨[(0,(.hole (.slice y7))),(1,(.hole y7))],[],[(.slice y7),y7],0⟩
abbrev Zsa:Shape:=⟨sl_38,[],ts_26,0⟩
def Z95 (x:(List (T7) × T7)):Option T19 :=
 (Z97 x.1).bind fun r28 =>
 bif (Bool.not r28) then
 some (([]:List T7),1)
 else
 (Z9b x.2).bind fun r29 =>
 bif (Bool.not r29) then
 some (([]:List T7),1)
 else
 (Z9d x.1).bind fun r30 =>
 bif (decide ((@mlook (Int × Int) (Int) (Ty.beq y6) (Ty.zero (.int .i64)) (x.2.1,x.2.2.1) r30) > (0:Int))) then
 some (([]:List T7),7)
 else
 bif ((((List.length x.1):Nat):Int) == 64) then
 some (([]:List T7),5)
 else
 (Z6b x.1).bind fun r31 =>
 bif (fits ((List.length r31)+(List.length (x.2 :: ([]:List T7))))) then
 some ((r31++(x.2 :: ([]:List T7))),0)
 else
 none
abbrev Zwu:=Spec.shp Zno Zsa Z95
def Zgz:Ctx:=mC [(252,[],Zwv),(283,[],Zwx),(284,[],Zwy),(286,[],Zvh)] [] 34 0
theorem Z96:Sound Tryz.prog 262 (Zwu) :=
 tS Zgz Tryz.f262 ⟨Z9a,Z9c,Z9e,Z6c,trivial⟩
abbrev Zjd:Shape:=⟨[(0,(.hole y50)),(1,(.hole y7))],[],[y50,y7],0⟩
abbrev Znz:Shape:=⟨[(0,(.hole y50)),(1,(.hole y40)),(2,(.hole (.int .i64)))],[],[y50,y40,(.int .i64)],0⟩
def Zc (x:((Int × T48) × T7)):Option ((Int × T48) × (Int × (Int × (T7 × Int))) × Int) :=
 let w:=Bool.not;
 let q:=((0:Int),(0:Int),((0:Int),(0:Int),(0:Int)),(0:Int));
 let p:=((0:Int),false,((0:Int),(0:Int),([]:List Int),(0:Int)),(0:Int),(0:Int),([]:List T7),([]:List T7));
 (Za x.1).bind fun r22 =>
 bif (w r22) then
 some (p,q,1)
 else
 (Ze x.2).bind fun r23 =>
 bif (w r23) then
 some (p,q,1)
 else
 (Zq (x.1.2.2.2.2.2.2,x.1,x.2.1)).bind fun r24 =>
 let v:=(r24.2.1.2.2.2.2.2.1,x.2);
 let u:=(r24.1.1 != (Int.negSucc 0));
 let s:=(((0:Int),(0:Int),r24.1,(0:Int)),(0:Int));
 (Zl r24.2).bind fun r25 =>
 bif r25.1 then
 some (x.1,(0,0,((Int.negSucc 0),0,0),0),0)
 else
 bif r24.2.1.2.1 then
 some (x.1,(3,0,((Int.negSucc 0),0,0),0),0)
 else
 bif u then
 bif (r24.2.1.2.2.2.1 == 1048576) then
 some (p,q,5)
 else
 bif u then
 (Zo (r24.1.1,r24.2)).bind fun r26 =>
 (Zs r26).bind fun r27 =>
 some (r27.2.1,(1,r27.1,r24.1,r27.1),0)
 else
 (Zi r24.2).bind fun r26 =>
 bif (w r26.1) then
 (Zw r24.2).bind fun r27 =>
 some (r27.2.1,(1,r27.1,r24.1,0),0)
 else
 (Z95 v).bind fun r27 =>
 bif (r27.2 != 0) then
 some (p,q,r27.2)
 else
 some ((r24.2.1.1,r24.2.1.2.1,r24.2.1.2.2.1,r24.2.1.2.2.2.1,r24.2.1.2.2.2.2.1,r27.1,r24.2.1.2.2.2.2.2.2),s)
 else
 (Zi r24.2).bind fun r26 =>
 bif (w r26.1) then
 bif (r24.2.1.2.2.2.1 == 1048576) then
 some (p,q,5)
 else
 bif u then
 (Zo (r24.1.1,r24.2)).bind fun r27 =>
 (Zs r27).bind fun r28 =>
 some (r28.2.1,(1,r28.1,r24.1,r28.1),0)
 else
 (Zi r24.2).bind fun r27 =>
 bif (w r27.1) then
 (Zw r24.2).bind fun r28 =>
 some (r28.2.1,(1,r28.1,r24.1,0),0)
 else
 (Z95 v).bind fun r28 =>
 bif (r28.2 != 0) then
 some (p,q,r28.2)
 else
 some ((r24.2.1.1,r24.2.1.2.1,r24.2.1.2.2.1,r24.2.1.2.2.2.1,r24.2.1.2.2.2.2.1,r28.1,r24.2.1.2.2.2.2.2.2),s)
 else
 bif u then
 (Zo (r24.1.1,r24.2)).bind fun r27 =>
 (Zs r27).bind fun r28 =>
 some (r28.2.1,(1,r28.1,r24.1,r28.1),0)
 else
 (Zi r24.2).bind fun r27 =>
 bif (w r27.1) then
 (Zw r24.2).bind fun r28 =>
 some (r28.2.1,(1,r28.1,r24.1,0),0)
 else
 (Z95 v).bind fun r28 =>
 bif (r28.2 != 0) then
 some (p,q,r28.2)
 else
 some ((r24.2.1.1,r24.2.1.2.1,r24.2.1.2.2.1,r24.2.1.2.2.2.1,r24.2.1.2.2.2.2.1,r28.1,r24.2.1.2.2.2.2.2.2),s)
abbrev Zsl:=Spec.shp Zjd Znz Zc
def Zbn:Ctx:=mC [(201,[],Zsk),(290,[],Zsm),(258,[],Zsr),(256,[],Spec.shpR Zjh Zo3 Zl),(289,[],Zsq),(293,[],Zss),(257,[],Spec.shpR Zjg Zo2 Zi),(292,[],Zsu),(262,[],Zwu)] [] 128 0
theorem Zd:Sound Tryz.prog 261 (Zsl) :=
 tS Zbn Tryz.f261 ⟨Zb,Zf,Zr,Zn,Zp,Zt,Zk,Zx,Z96,trivial⟩
abbrev Zlv:Shape:=⟨[(0,(.hole y32))],[],[y32],0⟩
abbrev Zqh:Shape:=⟨[(0,(.hole y32)),(1,(.hole (.int .i64))),(2,(.hole (.int .i64)))],[],[y32,(.int .i64),(.int .i64)],0⟩
def Z5f (x:(T22)):Option (T22 × Int × Int) :=
 (Z5j x).bind fun r29 =>
 bif (Bool.not r29) then
 some ((0,0,([]:List Int),0),0,1)
 else
 bif (x.2.2.2 == 0) then
 some ((0,0,([]:List Int),0),0,4)
 else
 (Z5p (x,0)).bind fun r30 =>
 bif (inb r30 (List.length x.2.2.1)) then
 (Z5p (x,1)).bind fun r31 =>
 some ((x.1,r31,x.2.2.1,(IntKind.wrap .i64 (x.2.2.2 - 1))),(getAt 0 x.2.2.1 (toN r30)),0)
 else
 none
abbrev Zv1:=Spec.shp Zlv Zqh Z5f
def Zer:Ctx:=mC [(280,[],Zv3),(296,[],Zv6)] [] 34 0
theorem Z5g:Sound Tryz.prog 298 (Zv1) :=
 tS Zer Tryz.f298 ⟨Z5k,Z5s,trivial⟩
abbrev Zjl:Shape:=⟨sl_4,bl_24,[y52],0⟩
abbrev Zo7:Shape:=⟨sl_2,bl_24,[(.int .i64),y52],1⟩
def Zu (x:(T53)):Option (Int × T53) :=
 (Z5f x.1.2.2.1).bind fun r28 =>
 some (r28.2.1,(x.1.1,x.1.2.1,r28.1,x.1.2.2.2.1,(IntKind.wrap .i64 (x.1.2.2.2.2.1+1)),x.1.2.2.2.2.2),x.2)
abbrev Zst:=Spec.shp Zjl Zo7 Zu
def Zbw:Ctx:=mC [(298,[],Zv1)] [] 28 1
theorem Zv:Sound Tryz.prog 291 (Zst) :=
 tS Zbw Tryz.f291 ⟨Z5g,trivial⟩
abbrev Zjb:Shape:=⟨[(0,(.hole y50)),(1,(.hole y7))],[],[y50,y7],0⟩
abbrev Znx:Shape:=⟨[(0,(.hole y50)),(1,(.hole y40)),(2,(.hole (.int .i64)))],[],[y50,y40,(.int .i64)],0⟩
def Z8 (x:((Int × T48) × T7)):Option ((Int × T48) × (Int × (Int × (T7 × Int))) × Int) :=
 let q:=((0:Int),(0:Int),((0:Int),(0:Int),(0:Int)),(0:Int));
 let p:=((0:Int),false,((0:Int),(0:Int),([]:List Int),(0:Int)),(0:Int),(0:Int),([]:List T7),([]:List T7));
 (Za x.1).bind fun r22 =>
 bif (Bool.not r22) then
 some (p,q,1)
 else
 (Ze x.2).bind fun r23 =>
 bif (Bool.not r23) then
 some (p,q,1)
 else
 (Zq (x.1.2.2.2.2.2.1,x.1,x.2.1)).bind fun r24 =>
 let v:=((0:Int),r24.1,(0:Int));
 let u:=(r24.1.1 != (Int.negSucc 0));
 let s:=(((0:Int),v),(0:Int));
 bif u then
 bif (r24.2.1.2.2.2.1 == 1048576) then
 some (p,q,5)
 else
 (Zo (r24.1.1,r24.2)).bind fun r25 =>
 (Zl r25).bind fun r26 =>
 bif r26.1 then
 some (x.1,s)
 else
 bif (decide (r25.1.2.2.1.2.2.2 > 0)) then
 (Zu r25).bind fun r27 =>
 bif u then
 (Zw r27.2).bind fun r28 =>
 some (r28.2.1,(1,r27.1,r24.1,r28.1),0)
 else
 some (r27.2.1,(1,r27.1,r24.1,0),0)
 else
 bif u then
 (Zs r25).bind fun r27 =>
 some (r27.2.1,(1,r27.1,r24.1,r27.1),0)
 else
 bif r25.1.2.1 then
 some (x.1,(2,v),0)
 else
 (Z95 (r25.1.2.2.2.2.2.2,x.2)).bind fun r27 =>
 bif (r27.2 != 0) then
 some (p,q,r27.2)
 else
 some ((r25.1.1,r25.1.2.1,r25.1.2.2.1,r25.1.2.2.2.1,r25.1.2.2.2.2.1,r25.1.2.2.2.2.2.1,r27.1),s)
 else
 (Zl r24.2).bind fun r25 =>
 bif r25.1 then
 some (x.1,s)
 else
 bif (decide (r24.2.1.2.2.1.2.2.2 > 0)) then
 (Zu r24.2).bind fun r26 =>
 bif u then
 (Zw r26.2).bind fun r27 =>
 some (r27.2.1,(1,r26.1,r24.1,r27.1),0)
 else
 some (r26.2.1,(1,r26.1,r24.1,0),0)
 else
 bif u then
 (Zs r24.2).bind fun r26 =>
 some (r26.2.1,(1,r26.1,r24.1,r26.1),0)
 else
 bif r24.2.1.2.1 then
 some (x.1,(2,v),0)
 else
 (Z95 (r24.2.1.2.2.2.2.2.2,x.2)).bind fun r26 =>
 bif (r26.2 != 0) then
 some (p,q,r26.2)
 else
 some ((r24.2.1.1,r24.2.1.2.1,r24.2.1.2.2.1,r24.2.1.2.2.2.1,r24.2.1.2.2.2.2.1,r24.2.1.2.2.2.2.2.1,r26.1),s)
abbrev Zsj:=Spec.shp Zjb Znx Z8
def Zbl:Ctx:=mC [(201,[],Zsk),(290,[],Zsm),(258,[],Zsr),(289,[],Zsq),(256,[],Spec.shpR Zjh Zo3 Zl),(291,[],Zst),(292,[],Zsu),(293,[],Zss),(262,[],Zwu)] [] 130 0
theorem Z9:Sound Tryz.prog 260 (Zsj) :=
 tS Zbl Tryz.f260 ⟨Zb,Zf,Zr,Zp,Zn,Zv,Zx,Zt,Z96,trivial⟩
abbrev Zkm:Shape:=⟨sl_40,bl_15,[y7,(.int .i64),.bool,y49,y6,y28,y51,y29,y37,y36],0⟩
abbrev Zp8:Shape:=⟨[(0,(.hole y40))],bl_15,[y40,y49,y6,y28,y51,y29,y37,y36],1⟩
def Z2w (x:(T7 × Int × Bool × T54 × (Int × Int) × List (T23) × List T51 × List (T24) × List T31 × List (T20))):Option ((Int × (Int × (T7 × Int))) × T54 × (Int × Int) × List (T23) × List T51 × List (T24) × List T31 × List (T20)) :=
 let q:=x.2.2.2;
 let p:=q.2.2.2;
 bif x.2.2.1 then
 bif (inb x.2.1 (List.length p.1)) then
 (Zc ((getAt (0,false,(0,0,([]:List Int),0),0,0,([]:List T7),([]:List T7)) p.1 (toN x.2.1)),x.1)).bind fun r21 =>
 bif (inb x.2.1 (List.length p.1)) then
 some (r21.2.1,q.1,q.2.1,q.2.2.1,(List.set p.1 (toN x.2.1) r21.1),p.2.1,p.2.2.1,p.2.2.2)
 else
 none
 else
 none
 else
 bif (inb x.2.1 (List.length p.1)) then
 (Z8 ((getAt (0,false,(0,0,([]:List Int),0),0,0,([]:List T7),([]:List T7)) p.1 (toN x.2.1)),x.1)).bind fun r21 =>
 bif (inb x.2.1 (List.length p.1)) then
 some (r21.2.1,q.1,q.2.1,q.2.2.1,(List.set p.1 (toN x.2.1) r21.1),p.2.1,p.2.2.1,p.2.2.2)
 else
 none
 else
 none
abbrev Ztt:=Spec.shp Zkm Zp8 Z2w
def Zd8:Ctx:=mC [(261,[],Zsl),(260,[],Zsj)] [] 38 1
theorem Z2x:Sound Tryz.prog 214 (Ztt) :=
 tS Zd8 Tryz.f214 ⟨Zd,Z9,trivial⟩
abbrev Zl0:Shape:=⟨sl_6,bl_15,ts_24,0⟩
abbrev Zpm:Shape:=⟨[],bl_15,ts_25,1⟩
def Z3p (x:T58):Option T57 :=
 let p:=x.2.2.2;
 bif (inb x.1 (List.length p.1)) then
 some (x.2.1,x.2.2.1,(List.set p.1 (toN x.1) ((getAt (0,0,0,false) p.1 (toN x.1)).1,(getAt (0,0,0,false) p.1 (toN x.1)).2.1,1,(getAt (0,0,0,false) p.1 (toN x.1)).2.2.2)),p.2.1,p.2.2.1,p.2.2.2.1,p.2.2.2.2)
 else
 none
abbrev Zu7:=Spec.shp Zl0 Zpm Z3p
def Zdo:Ctx:=mC [] [] 12 1
theorem Z3q:Sound Tryz.prog 215 (Zu7) :=
 tS Zdo Tryz.f215 trivial
abbrev Zj8:Shape:=⟨sl_31,[],[y50,(.int .i64)],0⟩
abbrev Znu:Shape:=⟨sl_31,[],[y50,(.int .i64)],0⟩
def Z2 (x:T53):Option T53 :=
 (Za x.1).bind fun r27 =>
 bif (Bool.not r27) then
 some ((0,false,(0,0,([]:List Int),0),0,0,([]:List T7),([]:List T7)),1)
 else
 bif (decide (x.2 < 0)) then
 some ((0,false,(0,0,([]:List Int),0),0,0,([]:List T7),([]:List T7)),1)
 else
 (Zo (x.2,x.1,x.2)).bind fun r28 =>
 some (r28.1,0)
abbrev Zsg:=Spec.shp Zj8 Znu Z2
def Zbi:Ctx:=mC [(201,[],Zsk),(289,[],Zsq)] [] 26 0
theorem Z3:Sound Tryz.prog 259 (Zsg) :=
 tS Zbi Tryz.f259 ⟨Zb,Zp,trivial⟩
abbrev Zig:Shape:=⟨[(0,(.ptr 0 [])),(6,(.ptr 1 [])),(98,(.sl 2)),(99,(.hole (.int .i64))),(100,(.hole (.int .i64)))],[.var (.pr (.pr (.hole y49) (.pr (.sl 3) (.pr (.sl 2) (.pr (.sl 4) (.pr (.sl 5) (.hole y6)))))) (.sl 6)),.var (.hole y7),.row y50,.row y21,.row y24,.row y34,.row y31],[(.int .i64),(.int .i64),y49,y6,y7,y51,y28,y29,y37,y36],1⟩
abbrev Zhf:List (ETag × Shape):=[(.exit 1,⟨[],bl_15,ts_25,1⟩)]
def Z9z (x:(Int × Int × T54 × (Int × Int) × T7 × List T51 × List (T23) × List (T24) × List T31 × List (T20))):Option ((Int × Int × T54 × (Int × Int) × T7 × List T51 × List (T23) × List (T24) × List T31 × List (T20)) ⊕ (T57)) :=
 let q:=x.2.2;
 let p:=q.2.2.2;
 let s:=p.2.2;
 bif (decide (x.2.1 < x.1)) then
 bif (inb x.2.1 (List.length p.1)) then
 (Z2 ((getAt (0,false,(0,0,([]:List Int),0),0,0,([]:List T7),([]:List T7)) p.1 (toN x.2.1)),q.2.2.1.1)).bind fun r26 =>
 bif (inb x.2.1 (List.length p.1)) then
 some (.inl (x.1,(IntKind.wrap .i64 (x.2.1+1)),q.1,q.2.1,q.2.2.1,(List.set p.1 (toN x.2.1) r26.1),p.2.1,s.1,s.2.1,s.2.2))
 else
 none
 else
 none
 else
 some (.inr (q.1,q.2.1,p.2.1,p.1,s.1,s.2.1,s.2.2))
def Zcy:Ctx:=mC [(153,[],Zto),(129,[],Zu5),(210,[],Ztm),(259,[],Zsg)] [] 120 1
theorem Za0:CSound Tryz.prog ⟨120,1,true⟩ (.loop (loopOf 13 Tryz.f213)) (pieceSpec Zig Zhf (loop Z9z)) :=
 tL Zcy 13 Tryz.f213 ⟨Z2n,Z3m,Z2j,Z3,trivial⟩
abbrev Zkd:Shape:=⟨[(0,(.ptr 0 [])),(1,(.hole y7)),(2,(.hole (.int .i64))),(3,(.hole (.int .i64))),(4,(.hole (.int .i64)))],bl_15,[y7,(.int .i64),(.int .i64),(.int .i64),y49,y6,y28,y51,y29,y37,y36],0⟩
abbrev Zoz:Shape:=⟨[],bl_15,ts_25,1⟩
def Z2e (x:(T7 × Int × Int × Int × T54 × (Int × Int) × List (T23) × List T51 × List (T24) × List T31 × List (T20))):Option T57 :=
 let v:=x.2.2;
 let s:=v.2.2.2;
 let q:=((0:Int),(0:Int),(0:Int),false);
 (Z2m (x.1.1,v.2.2.1,s.1,s.2.1,s.2.2.1,s.2.2.2.1,s.2.2.2.2.1,s.2.2.2.2.2)).bind fun r22 =>
 let u:=r22.2.2.2;
 let p:=(x.1.2.2,r22.2.1,r22.2.2.1,u.1,u.2.1,u.2.2.1,u.2.2.2.1,u.2.2.2.2);
 bif (r22.1.1 == 1) then
 (Z3l (x.1.1,3,x.2.1,v.1,p)).bind fun r23 =>
 (Z2i (x.1.1,r23.2.1,r23.2.2.1,r23.2.2.2.1,r23.2.2.2.2.1,r23.2.2.2.2.2.1,r23.2.2.2.2.2.2.1,r23.2.2.2.2.2.2.2)).bind fun r24 =>
 (loop Z9z ((((List.length r24.2.2.2.1):Nat):Int),0,r24.1,r24.2.1,x.1,r24.2.2.2.1,r24.2.2.1,r24.2.2.2.2.1,r24.2.2.2.2.2.1,r24.2.2.2.2.2.2)).bind fun r25 =>
 some (r25.1,r25.2.1,r25.2.2.1,r25.2.2.2.1,r25.2.2.2.2.1,r25.2.2.2.2.2.1,r25.2.2.2.2.2.2)
 else
 bif (r22.1.1 == 4) then
 bif (inb r22.1.2.1 (List.length r22.2.1.2.2.2.2.1)) then
 bif (inb x.1.2.1 (List.length (getAt (([]:List T1),false) r22.2.1.2.2.2.2.1 (toN r22.1.2.1)).1)) then
 bif (getAt (false,0) (getAt (([]:List T1),false) r22.2.1.2.2.2.2.1 (toN r22.1.2.1)).1 (toN x.1.2.1)).1 then
 (Z3l (x.1.1,3,x.2.1,v.1,p)).bind fun r23 =>
 (Z2i (x.1.1,r23.2.1,r23.2.2.1,r23.2.2.2.1,r23.2.2.2.2.1,r23.2.2.2.2.2.1,r23.2.2.2.2.2.2.1,r23.2.2.2.2.2.2.2)).bind fun r24 =>
 (loop Z9z ((((List.length r24.2.2.2.1):Nat):Int),0,r24.1,r24.2.1,x.1,r24.2.2.2.1,r24.2.2.1,r24.2.2.2.2.1,r24.2.2.2.2.2.1,r24.2.2.2.2.2.2)).bind fun r25 =>
 some (r25.1,r25.2.1,r25.2.2.1,r25.2.2.2.1,r25.2.2.2.2.1,r25.2.2.2.2.2.1,r25.2.2.2.2.2.2)
 else
 bif (v.2.1 == 2) then
 (Z3l (x.1.1,6,x.2.1,0,p)).bind fun r23 =>
 bif (inb x.1.1 (List.length r23.2.2.2.1)) then
 (Z2i (x.1.1,r23.2.1,r23.2.2.1,(List.set r23.2.2.2.1 (toN x.1.1) ((getAt q r23.2.2.2.1 (toN x.1.1)).1,(getAt q r23.2.2.2.1 (toN x.1.1)).2.1,(getAt q r23.2.2.2.1 (toN x.1.1)).2.2.1,true)),r23.2.2.2.2.1,r23.2.2.2.2.2.1,r23.2.2.2.2.2.2.1,r23.2.2.2.2.2.2.2)).bind fun r24 =>
 (loop Z9z ((((List.length r24.2.2.2.1):Nat):Int),0,r24.1,r24.2.1,x.1,r24.2.2.2.1,r24.2.2.1,r24.2.2.2.2.1,r24.2.2.2.2.2.1,r24.2.2.2.2.2.2)).bind fun r25 =>
 some (r25.1,r25.2.1,r25.2.2.1,r25.2.2.2.1,r25.2.2.2.2.1,r25.2.2.2.2.2.1,r25.2.2.2.2.2.2)
 else
 none
 else
 (Z3l (x.1.1,5,x.2.1,v.1,p)).bind fun r23 =>
 bif (inb x.1.1 (List.length r23.2.2.2.1)) then
 (Z2i (x.1.1,r23.2.1,r23.2.2.1,(List.set r23.2.2.2.1 (toN x.1.1) ((getAt q r23.2.2.2.1 (toN x.1.1)).1,(getAt q r23.2.2.2.1 (toN x.1.1)).2.1,(getAt q r23.2.2.2.1 (toN x.1.1)).2.2.1,false)),r23.2.2.2.2.1,r23.2.2.2.2.2.1,r23.2.2.2.2.2.2.1,r23.2.2.2.2.2.2.2)).bind fun r24 =>
 (loop Z9z ((((List.length r24.2.2.2.1):Nat):Int),0,r24.1,r24.2.1,x.1,r24.2.2.2.1,r24.2.2.1,r24.2.2.2.2.1,r24.2.2.2.2.2.1,r24.2.2.2.2.2.2)).bind fun r25 =>
 some (r25.1,r25.2.1,r25.2.2.1,r25.2.2.2.1,r25.2.2.2.2.1,r25.2.2.2.2.2.1,r25.2.2.2.2.2.2)
 else
 none
 else
 none
 else
 none
 else
 bif (v.2.1 == 2) then
 (Z3l (x.1.1,6,x.2.1,0,p)).bind fun r23 =>
 bif (inb x.1.1 (List.length r23.2.2.2.1)) then
 (Z2i (x.1.1,r23.2.1,r23.2.2.1,(List.set r23.2.2.2.1 (toN x.1.1) ((getAt q r23.2.2.2.1 (toN x.1.1)).1,(getAt q r23.2.2.2.1 (toN x.1.1)).2.1,(getAt q r23.2.2.2.1 (toN x.1.1)).2.2.1,true)),r23.2.2.2.2.1,r23.2.2.2.2.2.1,r23.2.2.2.2.2.2.1,r23.2.2.2.2.2.2.2)).bind fun r24 =>
 (loop Z9z ((((List.length r24.2.2.2.1):Nat):Int),0,r24.1,r24.2.1,x.1,r24.2.2.2.1,r24.2.2.1,r24.2.2.2.2.1,r24.2.2.2.2.2.1,r24.2.2.2.2.2.2)).bind fun r25 =>
 some (r25.1,r25.2.1,r25.2.2.1,r25.2.2.2.1,r25.2.2.2.2.1,r25.2.2.2.2.2.1,r25.2.2.2.2.2.2)
 else
 none
 else
 (Z3l (x.1.1,5,x.2.1,v.1,p)).bind fun r23 =>
 bif (inb x.1.1 (List.length r23.2.2.2.1)) then
 (Z2i (x.1.1,r23.2.1,r23.2.2.1,(List.set r23.2.2.2.1 (toN x.1.1) ((getAt q r23.2.2.2.1 (toN x.1.1)).1,(getAt q r23.2.2.2.1 (toN x.1.1)).2.1,(getAt q r23.2.2.2.1 (toN x.1.1)).2.2.1,false)),r23.2.2.2.2.1,r23.2.2.2.2.2.1,r23.2.2.2.2.2.2.1,r23.2.2.2.2.2.2.2)).bind fun r24 =>
 (loop Z9z ((((List.length r24.2.2.2.1):Nat):Int),0,r24.1,r24.2.1,x.1,r24.2.2.2.1,r24.2.2.1,r24.2.2.2.2.1,r24.2.2.2.2.2.1,r24.2.2.2.2.2.2)).bind fun r25 =>
 some (r25.1,r25.2.1,r25.2.2.1,r25.2.2.2.1,r25.2.2.2.2.1,r25.2.2.2.2.2.1,r25.2.2.2.2.2.2)
 else
 none
abbrev Ztk:=Spec.shp Zkd Zoz Z2e
def Zcx:Ctx:=mC [(153,[],Zto),(129,[],Zu5),(210,[],Ztm),(259,[],Zsg)] [(0,13,pieceSpec Zig Zhf (loop Z9z))] 120 1
theorem Z2f:Sound Tryz.prog 213 (Ztk) :=
 tS Zcx Tryz.f213 ⟨Z2n,Z3m,Z2j,Z3,trivial⟩ ⟨(pL 13 Tryz.f213 Za0),trivial⟩
abbrev Zko:Shape:=⟨sl_40,bl_15,[y7,(.int .i64),.bool,y49,y6,y28,y51,y29,y37,y36],0⟩
abbrev Zpa:Shape:=⟨[],bl_15,ts_25,1⟩
def Z30 (x:(T7 × Int × Bool × T54 × (Int × Int) × List (T23) × List T51 × List (T24) × List T31 × List (T20))):Option T57 :=
 let s:=x.2.2.2.2;
 (Z2w (x.1,x.2.1,x.2.2.1,x.2.2.2.1,s.1,s.2.1,s.2.2.1,s.2.2.2.1,s.2.2.2.2.1,s.2.2.2.2.2)).bind fun r20 =>
 let q:=r20.2.2;
 let p:=(q.2.1,q.2.2.1,q.2.2.2.1,q.2.2.2.2.1,q.2.2.2.2.2);
 bif (r20.1.1 == 0) then
 (Z3p (x.1.1,r20.2.1,q.1,p)).bind fun r21 =>
 some (r21.1,r21.2.1,r21.2.2.1,r21.2.2.2.1,r21.2.2.2.2.1,r21.2.2.2.2.2.1,r21.2.2.2.2.2.2)
 else
 bif (r20.1.1 == 3) then
 some (r20.2.1,(q.1.1,3),p)
 else
 bif (r20.1.2.2.1.1 != (Int.negSucc 0)) then
 (Z2e (r20.1.2.2.1,x.2.1,r20.1.2.2.2,1,r20.2.1,q.1,p)).bind fun r21 =>
 (Z2e (x.1,x.2.1,r20.1.2.1,r20.1.1,r21.1,r21.2.1,r21.2.2.1,r21.2.2.2.1,r21.2.2.2.2.1,r21.2.2.2.2.2.1,r21.2.2.2.2.2.2)).bind fun r22 =>
 let u:=r22.2.2;
 some (r22.1,r22.2.1,u.1,u.2.1,u.2.2.1,u.2.2.2.1,u.2.2.2.2)
 else
 (Z2e (x.1,x.2.1,r20.1.2.1,r20.1.1,r20.2.1,q.1,p)).bind fun r21 =>
 some (r21.1,r21.2.1,r21.2.2.1,r21.2.2.2.1,r21.2.2.2.2.1,r21.2.2.2.2.2.1,r21.2.2.2.2.2.2)
abbrev Ztv:=Spec.shp Zko Zpa Z30
def Zda:Ctx:=mC [(214,[],Ztt),(215,[],Zu7),(213,[],Ztk)] [] 47 1
theorem Z31:Sound Tryz.prog 211 (Ztv) :=
 tS Zda Tryz.f211 ⟨Z2x,Z3q,Z2f,trivial⟩
abbrev Zks:Shape:=⟨sl_39,bl_15,ts_27,0⟩
abbrev Zpe:Shape:=⟨[],bl_15,ts_25,1⟩
def Z38 (x:T59):Option T57 :=
 let q:=x.2.2.2.2;
 (Z3l (x.1.1,2,x.2.1.2.1,0,(Int.negSucc 0),x.2.2.1,x.2.2.2.1,q.1,q.2.1,q.2.2.1,q.2.2.2.1,q.2.2.2.2)).bind fun r18 =>
 let p:=r18.2.2.2;
 (Z30 ((x.1.1,0,r18.1),x.2.1.2.1,true,r18.2.1,r18.2.2.1,p.1,p.2.1,p.2.2.1,p.2.2.2.1,p.2.2.2.2)).bind fun r19 =>
 let s:=r19.2.2;
 some (r19.1,r19.2.1,s.1,s.2.1,s.2.2.1,s.2.2.2.1,s.2.2.2.2)
abbrev Ztz:=Spec.shp Zks Zpe Z38
def Zdf:Ctx:=mC [(129,[],Zu5),(211,[],Ztv)] [] 21 1
theorem Z39:Sound Tryz.prog 140 (Ztz) :=
 tS Zdf Tryz.f140 ⟨Z3m,Z31,trivial⟩
abbrev Zkq:Shape:=⟨sl_39,bl_15,ts_27,0⟩
abbrev Zpc:Shape:=⟨[],bl_15,ts_25,1⟩
def Z34 (x:T59):Option T57 :=
 let q:=x.2.2.2.2;
 (Z3l (x.1.1,4,x.2.1.2.1,0,(Int.negSucc 0),x.2.2.1,x.2.2.2.1,q.1,q.2.1,q.2.2.1,q.2.2.2.1,q.2.2.2.2)).bind fun r18 =>
 let p:=r18.2.2.2;
 (Z30 ((x.1.1,0,r18.1),x.2.1.2.1,false,r18.2.1,r18.2.2.1,p.1,p.2.1,p.2.2.1,p.2.2.2.1,p.2.2.2.2)).bind fun r19 =>
 let s:=r19.2.2;
 some (r19.1,r19.2.1,s.1,s.2.1,s.2.2.1,s.2.2.2.1,s.2.2.2.2)
abbrev Ztx:=Spec.shp Zkq Zpc Z34
def Zdc:Ctx:=mC [(129,[],Zu5),(211,[],Ztv)] [] 21 1
theorem Z35:Sound Tryz.prog 141 (Ztx) :=
 tS Zdc Tryz.f141 ⟨Z3m,Z31,trivial⟩
abbrev Zj7:Shape:=⟨[(0,(.hole y50))],[],[y50],0⟩
abbrev Znt:Shape:=⟨[(0,(.hole y50)),(1,(.hole (.slice y7))),(2,(.hole .bool)),(3,(.hole (.int .i64)))],[],[y50,(.slice y7),.bool,(.int .i64)],0⟩
def Z0 (x:T51):Option ((Int × T48) × List (T7) × Bool × Int) :=
 (Za x).bind fun r19 =>
 bif (Bool.not r19) then
 some ((0,false,(0,0,([]:List Int),0),0,0,([]:List T7),([]:List T7)),([]:List T7),false,1)
 else
 bif (decide (x.1 < 0)) then
 some (x,([]:List T7),true,0)
 else
 bif x.2.1 then
 some (x,([]:List T7),true,0)
 else
 bif (decide ((((List.length x.2.2.2.2.2.1):Nat):Int) > 0)) then
 some (x,([]:List T7),true,0)
 else
 some ((x.1,true,x.2.2.1,x.2.2.2.1,x.2.2.2.2.1,x.2.2.2.2.2.1,([]:List T7)),x.2.2.2.2.2.2,false,0)
abbrev Zsf:=Spec.shp Zj7 Znt Z0
def Zbh:Ctx:=mC [(201,[],Zsk)] [] 31 0
theorem Z1:Sound Tryz.prog 212 (Zsf) :=
 tS Zbh Tryz.f212 ⟨Zb,trivial⟩
abbrev Zij:Shape:=⟨[(0,(.ptr 0 [])),(5,(.ptr 1 [])),(10,(.mp 2)),(53,(.hole (.slice y7))),(54,(.hole (.int .i64))),(55,(.hole (.int .i64)))],[.var (.pr (.pr (.hole y49) (.pr (.sl 3) (.pr (.sl 4) (.pr (.sl 5) (.pr (.sl 6) (.hole y6)))))) (.sl 7)),.var (.hole y7),.mp (.int .i64) (.int .i64),.row y21,.row y50,.row y24,.row y34,.row y31],[(.slice y7),(.int .i64),(.int .i64),y49,y6,y7,(.slice y6),y28,y51,y29,y37,y36],1⟩
abbrev Zhi:List (ETag × Shape):=[(.exit 0,⟨[],bl_15,ts_25,1⟩)]
def Za5 (x:(List (T7) × Int × Int × T54 × (Int × Int) × T7 × List (Int × Int) × List (T23) × List T51 × List (T24) × List T31 × List (T20))):Option ((List (T7) × Int × Int × T54 × (Int × Int) × T7 × List (Int × Int) × List (T23) × List T51 × List (T24) × List T31 × List (T20)) ⊕ (T57)) :=
 let b:=IntKind.wrap .i64;
 let v:=x.2.2;
 let u:=v.2.2;
 let a:=u.2.2;
 let s:=(getAt ((0:Int),(0:Int),(0:Int)) x.1 (toN v.1));
 let q:=(a.2.1,a.2.2.1,a.2.2.2.1,a.2.2.2.2.1,a.2.2.2.2.2);
 let p:=(@mput (Int) (Int) (Ty.beq (.int .i64)) s.1 (b ((@mlook (Int) (Int) (Ty.beq (.int .i64)) (Ty.zero (.int .i64)) s.1 a.1)+(1:Int))) a.1);
 bif (decide (v.1 < x.2.1)) then
 bif (inb v.1 (List.length x.1)) then
 bif ((@mlook (Int) (Int) (Ty.beq (.int .i64)) (Ty.zero (.int .i64)) s.1 p) == (1:Int)) then
 (Z2e (s,u.2.1.2.1,0,2,v.2.1,u.1,q)).bind fun r22 =>
 let w:=r22.2.2;
 some (.inl (x.1,x.2.1,(b (v.1+1)),r22.1,r22.2.1,u.2.1,p,w.1,w.2.1,w.2.2.1,w.2.2.2.1,w.2.2.2.2))
 else
 some (.inl (x.1,x.2.1,(b (v.1+1)),v.2.1,u.1,u.2.1,p,q))
 else
 none
 else
 some (.inr (v.2.1,u.1,q))
def Zdk:Ctx:=mC [(212,[],Zsf),(129,[],Zu5),(210,[],Ztm),(213,[],Ztk)] [] 75 1
theorem Za6:CSound Tryz.prog ⟨75,1,true⟩ (.loop (loopOf 10 Tryz.f142)) (pieceSpec Zij Zhi (loop Za5)) :=
 tL Zdk 10 Tryz.f142 ⟨Z1,Z3m,Z2j,Z2f,trivial⟩
abbrev Zkw:Shape:=⟨sl_39,bl_15,ts_27,0⟩
abbrev Zpi:Shape:=⟨[],bl_15,ts_25,1⟩
def Z3h (x:T59):Option T57 :=
 let v:=x.2.2;
 let p:=v.2.2.2;
 bif (inb x.2.1.2.1 (List.length p.1)) then
 (Z0 (getAt (0,false,(0,0,([]:List Int),0),0,0,([]:List T7),([]:List T7)) p.1 (toN x.2.1.2.1))).bind fun r18 =>
 bif r18.2.2.1 then
 some (v.1,(v.2.1.1,3),v.2.2.1,p.1,p.2.1,p.2.2.1,p.2.2.2)
 else
 bif (inb x.2.1.2.1 (List.length p.1)) then
 (Z3l (x.1.1,7,x.2.1.2.1,0,(Int.negSucc 0),v.1,v.2.1,v.2.2.1,(List.set p.1 (toN x.2.1.2.1) r18.1),p.2.1,p.2.2.1,p.2.2.2)).bind fun r19 =>
 let q:=r19.2.2.2;
 (Z2i (x.1.1,r19.2.1,r19.2.2.1,q.1,q.2.1,q.2.2.1,q.2.2.2.1,q.2.2.2.2)).bind fun r20 =>
 let s:=r20.2.2;
 (loop Za5 (r18.2.1,(((List.length r18.2.1):Nat):Int),0,r20.1,r20.2.1,x.2.1,([]:List (Int × Int)),s.1,s.2.1,s.2.2.1,s.2.2.2.1,s.2.2.2.2)).bind fun r21 =>
 let u:=r21.2.2;
 some (r21.1,r21.2.1,u.1,u.2.1,u.2.2.1,u.2.2.2.1,u.2.2.2.2)
 else
 none
 else
 none
abbrev Zu3:=Spec.shp Zkw Zpi Z3h
def Zdj:Ctx:=mC [(212,[],Zsf),(129,[],Zu5),(210,[],Ztm),(213,[],Ztk)] [(0,10,pieceSpec Zij Zhi (loop Za5))] 75 1
theorem Z3i:Sound Tryz.prog 142 (Zu3) :=
 tS Zdj Tryz.f142 ⟨Z1,Z3m,Z2j,Z2f,trivial⟩ ⟨(pL 10 Tryz.f142 Za6),trivial⟩
abbrev Zii:Shape:=⟨[(0,(.ptr 0 [])),(4,(.ptr 1 [])),(6,(.hole (.int .i64))),(28,(.hole (.slice y5))),(29,(.hole (.int .i64))),(30,(.hole (.int .i64)))],bl_25,[(.int .i64),(.slice y5),(.int .i64),(.int .i64),y49,y6,y6,y28,y51,y29,y37,y36],1⟩
abbrev Zhh:List (ETag × Shape):=[(.exit 1,⟨[(0,(.ptr 0 [])),(4,(.ptr 1 []))],bl_25,[y49,y6,y6,y28,y51,y29,y37,y36],1⟩)]
def Za3 (x:(Int × List T1 × Int × Int × T54 × (Int × Int) × (Int × Int) × List (T23) × List T51 × List (T24) × List T31 × List (T20))):Option ((Int × List T1 × Int × Int × T54 × (Int × Int) × (Int × Int) × List (T23) × List T51 × List (T24) × List T31 × List (T20)) ⊕ (T54 × (Int × Int) × (Int × Int) × List (T23) × List T51 × List (T24) × List T31 × List (T20))) :=
 let q:=x.2.2.2;
 let p:=q.2.2.2;
 let u:=p.2.2.2;
 bif (decide (q.1 < x.2.2.1)) then
 bif (inb q.1 (List.length x.2.1)) then
 (Z2w ((p.1.1,q.1,x.1),(getAt (false,0) x.2.1 (toN q.1)).2,(getAt (false,0) x.2.1 (toN q.1)).1,q.2.1,q.2.2.1,p.2.1,p.2.2.1,u.1,u.2.1,u.2.2)).bind fun r20 =>
 let s:=r20.2.2.2;
 some (.inl (x.1,x.2.1,x.2.2.1,(IntKind.wrap .i64 (q.1+1)),r20.2.1,r20.2.2.1,p.1,s.1,s.2.1,s.2.2.1,s.2.2.2.1,s.2.2.2.2))
 else
 none
 else
 some (.inr (q.2.1,q.2.2.1,p.1,p.2.1,p.2.2.1,u.1,u.2.1,u.2.2))
def Zde:Ctx:=mC [(129,[],Zu5),(211,[],Ztv),(210,[],Ztm),(214,[],Ztt)] [] 87 1
theorem Za4:CSound Tryz.prog ⟨87,1,true⟩ (.loop (loopOf 5 Tryz.f143)) (pieceSpec Zii Zhh (loop Za3)) :=
 tL Zde 5 Tryz.f143 ⟨Z3m,Z31,Z2j,Z2x,trivial⟩
abbrev Zkr:Shape:=⟨sl_39,bl_15,ts_27,0⟩
abbrev Zpd:Shape:=⟨[],bl_15,ts_25,1⟩
def Z36 (x:T59):Option T57 :=
 let u:=x.2.2.2.2;
 (Z3l (x.1.1,8,x.2.1.2.1,0,(Int.negSucc 0),x.2.2.1,x.2.2.2.1,u.1,u.2.1,u.2.2.1,u.2.2.2.1,u.2.2.2.2)).bind fun r18 =>
 let s:=r18.2.2;
 let q:=(s.2.1,s.2.2.1,s.2.2.2.1,s.2.2.2.2.1,s.2.2.2.2.2);
 let p:=(getAt (([]:List T1),false) r18.2.1.2.2.2.2.1 (toN x.2.1.2.1));
 bif (inb x.2.1.2.1 (List.length r18.2.1.2.2.2.2.1)) then
 bif (x.1.2 != (Int.negSucc 0)) then
 bif (inb x.1.2 (List.length p.1)) then
 (Z30 ((x.1.1,x.1.2,r18.1),(getAt (false,0) p.1 (toN x.1.2)).2,(getAt (false,0) p.1 (toN x.1.2)).1,r18.2.1,s.1,q)).bind fun r19 =>
 some (r19.1,r19.2.1,r19.2.2.1,r19.2.2.2.1,r19.2.2.2.2.1,r19.2.2.2.2.2.1,r19.2.2.2.2.2.2)
 else
 none
 else
 bif p.2 then
 (Z3l (x.1.1,9,x.2.1.2.1,0,r18.1,r18.2.1,s.1,q)).bind fun r19 =>
 (Z2i (x.1.1,r19.2.1,r19.2.2.1,r19.2.2.2.1,r19.2.2.2.2.1,r19.2.2.2.2.2.1,r19.2.2.2.2.2.2.1,r19.2.2.2.2.2.2.2)).bind fun r20 =>
 some (r20.1,r20.2.1,r20.2.2.1,r20.2.2.2.1,r20.2.2.2.2.1,r20.2.2.2.2.2.1,r20.2.2.2.2.2.2)
 else
 (loop Za3 (r18.1,p.1,(((List.length p.1):Nat):Int),0,r18.2.1,s.1,x.1,q)).bind fun r19 =>
 (Z3p (r19.2.2.1.1,r19.1,r19.2.1,r19.2.2.2.1,r19.2.2.2.2.1,r19.2.2.2.2.2.1,r19.2.2.2.2.2.2.1,r19.2.2.2.2.2.2.2)).bind fun r20 =>
 some (r20.1,r20.2.1,r20.2.2.1,r20.2.2.2.1,r20.2.2.2.2.1,r20.2.2.2.2.2.1,r20.2.2.2.2.2.2)
 else
 none
abbrev Zty:=Spec.shp Zkr Zpd Z36
def Zdd:Ctx:=mC [(129,[],Zu5),(211,[],Ztv),(210,[],Ztm),(214,[],Ztt),(215,[],Zu7)] [(0,5,pieceSpec Zii Zhh (loop Za3))] 87 1
theorem Z37:Sound Tryz.prog 143 (Zty) :=
 tS Zdd Tryz.f143 ⟨Z3m,Z31,Z2j,Z2x,Z3q,trivial⟩ ⟨(pL 5 Tryz.f143 Za4),trivial⟩
abbrev Zjy:Shape:=⟨[(0,(.hole (.one (.slice y7))))],[],[(.one (.slice y7))],0⟩
abbrev Zok:Shape:=⟨[(0,(.hole y24))],[],[y24],0⟩
def Z1k (x:(List (T7))):Option (T24) :=
 some (true,x)
abbrev Zt5:=Spec.shp Zjy Zok Z1k
def Zcc:Ctx:=mC [] [] 6 0
theorem Z1l:Sound Tryz.prog 263 (Zt5) :=
 tS Zcc Tryz.f263 trivial
abbrev Zjx:Shape:=⟨[(0,(.hole y24)),(1,(.hole y7))],[],[y24,y7],0⟩
abbrev Zoj:Shape:=⟨[(0,(.hole y24)),(1,(.hole .bool)),(2,(.hole (.int .i64)))],[],[y24,.bool,(.int .i64)],0⟩
def Z1i (x:(T24 × T7)):Option (T24 × Bool × Int) :=
 (Z95 (x.1.2,x.2)).bind fun r20 =>
 (Z1g x.1).bind fun r21 =>
 bif (Bool.not r21) then
 some ((false,([]:List T7)),false,1)
 else
 bif (r20.2 == 1) then
 some ((false,([]:List T7)),false,1)
 else
 bif (Bool.not x.1.1) then
 (Z1k ([]:List T7)).bind fun r22 =>
 some (r22,true,0)
 else
 bif (r20.2 != 0) then
 some ((false,([]:List T7)),false,r20.2)
 else
 (Z1k r20.1).bind fun r22 =>
 some (r22,false,0)
abbrev Zt4:=Spec.shp Zjx Zoj Z1i
def Zcb:Ctx:=mC [(262,[],Zwu),(206,[],Zt3),(263,[],Zt5)] [] 39 0
theorem Z1j:Sound Tryz.prog 216 (Zt4) :=
 tS Zcb Tryz.f216 ⟨Z96,Z1h,Z1l,trivial⟩
abbrev Zkk:Shape:=⟨[(0,(.ptr 0 [])),(1,(.hole (.int .i64))),(2,(.hole (.int .i64))),(3,(.hole (.int .i64)))],bl_15,[(.int .i64),(.int .i64),(.int .i64),y49,y6,y28,y51,y29,y37,y36],0⟩
abbrev Zp6:Shape:=⟨[],bl_15,ts_25,1⟩
def Z2s (x:(Int × Int × Int × T54 × (Int × Int) × List (T23) × List T51 × List (T24) × List T31 × List (T20))):Option T57 :=
 let p:=x.2.2.2.2;
 (Z3l (x.1,11,x.2.1,0,x.2.2.1,x.2.2.2.1,p.1,p.2.1,p.2.2.1,p.2.2.2.1,p.2.2.2.2.1,p.2.2.2.2.2)).bind fun r21 =>
 let q:=r21.2.2.2;
 (Z2i (x.1,r21.2.1,r21.2.2.1,q.1,q.2.1,q.2.2.1,q.2.2.2.1,q.2.2.2.2)).bind fun r22 =>
 let s:=r22.2.2;
 some (r22.1,r22.2.1,s.1,s.2.1,s.2.2.1,s.2.2.2.1,s.2.2.2.2)
abbrev Ztr:=Spec.shp Zkk Zp6 Z2s
def Zd6:Ctx:=mC [(129,[],Zu5),(210,[],Ztm)] [] 16 1
theorem Z2t:Sound Tryz.prog 217 (Ztr) :=
 tS Zd6 Tryz.f217 ⟨Z3m,Z2j,trivial⟩
abbrev Zkj:Shape:=⟨sl_39,bl_15,ts_27,0⟩
abbrev Zp5:Shape:=⟨[],bl_15,ts_25,1⟩
def Z2q (x:T59):Option T57 :=
 let q:=x.2.2.2.2;
 (Z3l (x.1.1,10,x.2.1.2.1,0,(Int.negSucc 0),x.2.2.1,x.2.2.2.1,q.1,q.2.1,q.2.2.1,q.2.2.2.1,q.2.2.2.2)).bind fun r18 =>
 let s:=r18.2.2;
 let p:=s.2.2;
 bif (inb x.2.1.2.1 (List.length p.2.1)) then
 (Z1i ((getAt (false,([]:List T7)) p.2.1 (toN x.2.1.2.1)),x.1.1,0,r18.1)).bind fun r19 =>
 bif (inb x.2.1.2.1 (List.length p.2.1)) then
 bif (Bool.not r19.2.1) then
 (Z3p (x.1.1,r18.2.1,s.1,s.2.1,p.1,(List.set p.2.1 (toN x.2.1.2.1) r19.1),p.2.2.1,p.2.2.2)).bind fun r20 =>
 some (r20.1,r20.2.1,r20.2.2.1,r20.2.2.2.1,r20.2.2.2.2.1,r20.2.2.2.2.2.1,r20.2.2.2.2.2.2)
 else
 (Z2s (x.1.1,x.2.1.2.1,r18.1,r18.2.1,s.1,s.2.1,p.1,(List.set p.2.1 (toN x.2.1.2.1) r19.1),p.2.2.1,p.2.2.2)).bind fun r20 =>
 some (r20.1,r20.2.1,r20.2.2.1,r20.2.2.2.1,r20.2.2.2.2.1,r20.2.2.2.2.2.1,r20.2.2.2.2.2.2)
 else
 none
 else
 none
abbrev Ztq:=Spec.shp Zkj Zp5 Z2q
def Zd5:Ctx:=mC [(129,[],Zu5),(216,[],Zt4),(215,[],Zu7),(217,[],Ztr)] [] 56 1
theorem Z2r:Sound Tryz.prog 144 (Ztq) :=
 tS Zd5 Tryz.f144 ⟨Z3m,Z1j,Z3q,Z2t,trivial⟩
abbrev Zjv:Shape:=⟨[(0,(.hole y24))],[],[y24],0⟩
abbrev Zoh:Shape:=⟨[(0,(.hole y24)),(1,(.hole y7)),(2,(.hole .bool)),(3,(.hole (.int .i64)))],[],[y24,y7,.bool,(.int .i64)],0⟩
def Z1e (x:(T24)):Option (T24 × T7 × Bool × Int) :=
 (Z1g x).bind fun r19 =>
 bif (Bool.not r19) then
 some ((false,([]:List T7)),(0,0,0),false,1)
 else
 bif (Bool.not x.1) then
 some ((false,([]:List T7)),(0,0,0),false,6)
 else
 bif ((((List.length x.2):Nat):Int) == 0) then
 some ((false,([]:List T7)),(0,0,0),false,0)
 else
 bif (sub3 1 (((List.length x.2):Nat):Int) (List.length x.2)) then
 (Z1k (cut x.2 (toN 1) ((toN (((List.length x.2):Nat):Int)) - (toN 1)))).bind fun r20 =>
 bif (inb 0 (List.length x.2)) then
 some (r20,(getAt (0,0,0) x.2 (toN 0)),true,0)
 else
 none
 else
 none
abbrev Zt2:=Spec.shp Zjv Zoh Z1e
def Zc9:Ctx:=mC [(206,[],Zt3),(263,[],Zt5)] [] 34 0
theorem Z1f:Sound Tryz.prog 218 (Zt2) :=
 tS Zc9 Tryz.f218 ⟨Z1h,Z1l,trivial⟩
abbrev Zkz:Shape:=⟨sl_39,bl_15,ts_27,0⟩
abbrev Zpl:Shape:=⟨[],bl_15,ts_25,1⟩
def Z3n (x:T59):Option T57 :=
 let v:=x.2.2;
 let p:=v.2.2.2;
 bif (inb x.2.1.2.1 (List.length p.2.1)) then
 (Z1e (getAt (false,([]:List T7)) p.2.1 (toN x.2.1.2.1))).bind fun r18 =>
 bif (r18.2.2.2 != 0) then
 some (v.1,(v.2.1.1,3),v.2.2.1,p.1,p.2.1,p.2.2.1,p.2.2.2)
 else
 bif (inb x.2.1.2.1 (List.length p.2.1)) then
 (Z3l (x.1.1,12,x.2.1.2.1,0,(Int.negSucc 0),v.1,v.2.1,v.2.2.1,p.1,(List.set p.2.1 (toN x.2.1.2.1) r18.1),p.2.2.1,p.2.2.2)).bind fun r19 =>
 let s:=r19.2.2.2;
 (Z2i (x.1.1,r19.2.1,r19.2.2.1,s.1,s.2.1,s.2.2.1,s.2.2.2.1,s.2.2.2.2)).bind fun r20 =>
 let q:=r20.2.2.2;
 bif r18.2.2.1 then
 (Z2s (r18.2.1.1,x.2.1.2.1,r18.2.1.2.2,r20.1,r20.2.1,r20.2.2.1,q.1,q.2.1,q.2.2.1,q.2.2.2)).bind fun r21 =>
 let u:=r21.2.2;
 some (r21.1,r21.2.1,u.1,u.2.1,u.2.2.1,u.2.2.2.1,u.2.2.2.2)
 else
 some (r20.1,r20.2.1,r20.2.2.1,q.1,q.2.1,q.2.2.1,q.2.2.2)
 else
 none
 else
 none
abbrev Zu6:=Spec.shp Zkz Zpl Z3n
def Zdn:Ctx:=mC [(218,[],Zt2),(129,[],Zu5),(210,[],Ztm),(217,[],Ztr)] [] 59 1
theorem Z3o:Sound Tryz.prog 145 (Zu6) :=
 tS Zdn Tryz.f145 ⟨Z1f,Z3m,Z2j,Z2t,trivial⟩
abbrev Zl6:Shape:=⟨sl_41,[],[y34,y7],0⟩
abbrev Zps:Shape:=⟨sl_42,[],ts_28,0⟩
def Z41 (x:T33):Option T37 :=
 some ((1,x.2.1,([]:List T7)),0,0)
abbrev Zud:=Spec.shp Zl6 Zps Z41
def Zdu:Ctx:=mC [] [] 10 0
theorem Z42:Sound Tryz.prog 264 (Zud) :=
 tS Zdu Tryz.f264 trivial
abbrev Zl8:Shape:=⟨sl_41,[],[y34,y7],0⟩
abbrev Zpu:Shape:=⟨sl_42,[],ts_28,0⟩
def Z45 (x:T33):Option T37 :=
 bif (x.1.2.1 == x.2.1) then
 some ((0,0,([]:List T7)),0,6)
 else
 (Z95 (x.1.2.2,x.2)).bind fun r22 =>
 bif (r22.2 != 0) then
 some ((0,0,([]:List T7)),0,r22.2)
 else
 some ((x.1.1,x.1.2.1,r22.1),1,0)
abbrev Zuf:=Spec.shp Zl8 Zpu Z45
def Zdw:Ctx:=mC [(262,[],Zwu)] [] 29 0
theorem Z46:Sound Tryz.prog 265 (Zuf) :=
 tS Zdw Tryz.f265 ⟨Z96,trivial⟩
abbrev Zl7:Shape:=⟨sl_41,[],[y34,y7],0⟩
abbrev Zpt:Shape:=⟨sl_42,[],ts_28,0⟩
def Z43 (x:T33):Option T37 :=
 some (x.1,2,0)
abbrev Zue:=Spec.shp Zl7 Zpt Z43
def Zdv:Ctx:=mC [] [] 8 0
theorem Z44:Sound Tryz.prog 266 (Zue) :=
 tS Zdv Tryz.f266 trivial
abbrev Zl3:Shape:=⟨sl_41,[],[y34,y7],0⟩
abbrev Zpp:Shape:=⟨sl_42,[],ts_28,0⟩
def Z3v (x:T33):Option T37 :=
 (Z3z x.1).bind fun r20 =>
 bif (Bool.not r20) then
 some ((0,0,([]:List T7)),0,1)
 else
 bif (decide (x.2.1 < 0)) then
 some ((0,0,([]:List T7)),0,1)
 else
 bif (decide (x.2.2.1 < 0)) then
 some ((0,0,([]:List T7)),0,1)
 else
 bif (decide (x.2.2.2 < 0)) then
 some ((0,0,([]:List T7)),0,1)
 else
 bif (x.1.1 == (((0:Nat):Nat):Int)) then
 (Z41 (x.1,x.2)).bind fun r21 =>
 some (r21.1,r21.2.1,r21.2.2)
 else
 bif (x.1.1 == ((((0:Nat)+(1:Nat)):Nat):Int)) then
 (Z45 (x.1,x.2)).bind fun r21 =>
 some (r21.1,r21.2.1,r21.2.2)
 else
 bif (x.1.1 == (((((0:Nat)+(1:Nat))+(1:Nat)):Nat):Int)) then
 (Z43 (x.1,x.2)).bind fun r21 =>
 some (r21.1,r21.2.1,r21.2.2)
 else
 none
abbrev Zua:=Spec.shp Zl3 Zpp Z3v
def Zdr:Ctx:=mC [(207,[],Zuc),(264,[],Zud),(265,[],Zuf),(266,[],Zue)] [] 42 0
theorem Z3w:Sound Tryz.prog 219 (Zua) :=
 tS Zdr Tryz.f219 ⟨Z40,Z42,Z46,Z44,trivial⟩
abbrev Zkx:Shape:=⟨sl_32,bl_15,[(.int .i64),(.int .i64),y49,y6,y28,y51,y29,y37,y36],0⟩
abbrev Zpj:Shape:=⟨[],bl_15,ts_25,1⟩
def Z3j (x:(Int × Int × T54 × (Int × Int) × List (T23) × List T51 × List (T24) × List T31 × List (T20))):Option T57 :=
 let s:=x.2.2.2.2;
 (Z2m (x.1,x.2.2.1,x.2.2.2.1,s.1,s.2.1,s.2.2.1,s.2.2.2.1,s.2.2.2.2)).bind fun r21 =>
 let p:=r21.2.2.2;
 (Z3l (x.1,15,r21.1.2.1,0,x.2.1,r21.2.1,r21.2.2.1,p.1,p.2.1,p.2.2.1,p.2.2.2.1,p.2.2.2.2)).bind fun r22 =>
 let q:=r22.2.2.2;
 (Z2k (x.1,r21.1.2.2,r22.2.1,r22.2.2.1,q.1,q.2.1,q.2.2.1,q.2.2.2.1,q.2.2.2.2)).bind fun r23 =>
 let u:=r23.2.2;
 some (r23.1,r23.2.1,u.1,u.2.1,u.2.2.1,u.2.2.2.1,u.2.2.2.2)
abbrev Zu4:=Spec.shp Zkx Zpj Z3j
def Zdl:Ctx:=mC [(153,[],Zto),(129,[],Zu5),(130,[],Ztn)] [] 21 1
theorem Z3k:Sound Tryz.prog 220 (Zu4) :=
 tS Zdl Tryz.f220 ⟨Z2n,Z3m,Z2l,trivial⟩
abbrev Zkc:Shape:=⟨sl_39,bl_15,ts_27,0⟩
abbrev Zoy:Shape:=⟨[],bl_15,ts_25,1⟩
def Z2c (x:T59):Option T57 :=
 let s:=x.2.2.2.2;
 (Z3l (x.1.1,13,x.2.1.2.1,0,(Int.negSucc 0),x.2.2.1,x.2.2.2.1,s.1,s.2.1,s.2.2.1,s.2.2.2.1,s.2.2.2.2)).bind fun r18 =>
 let v:=r18.2.2;
 let q:=v.2.2;
 let u:=q.2.2;
 bif (inb x.2.1.2.1 (List.length u.1)) then
 (Z3v ((getAt (0,0,([]:List T7)) u.1 (toN x.2.1.2.1)),x.1.1,0,r18.1)).bind fun r19 =>
 let p:=(r18.2.1,v.1,v.2.1,q.1,q.2.1,(List.set u.1 (toN x.2.1.2.1) r19.1),u.2);
 bif (r19.2.2 != 0) then
 (Z3p (x.1.1,r18.2.1,v.1,v.2.1,q.1,q.2.1,u.1,u.2)).bind fun r20 =>
 some (r20.1,r20.2.1,r20.2.2.1,r20.2.2.2.1,r20.2.2.2.2.1,r20.2.2.2.2.2.1,r20.2.2.2.2.2.2)
 else
 bif (inb x.2.1.2.1 (List.length u.1)) then
 bif (r19.2.1 == 0) then
 (Z2i (x.1.1,p)).bind fun r20 =>
 some (r20.1,r20.2.1,r20.2.2.1,r20.2.2.2.1,r20.2.2.2.2.1,r20.2.2.2.2.2.1,r20.2.2.2.2.2.2)
 else
 bif (r19.2.1 == 1) then
 (Z3p (x.1.1,p)).bind fun r20 =>
 some (r20.1,r20.2.1,r20.2.2.1,r20.2.2.2.1,r20.2.2.2.2.1,r20.2.2.2.2.2.1,r20.2.2.2.2.2.2)
 else
 (Z3j (x.1.1,r18.1,p)).bind fun r20 =>
 some (r20.1,r20.2.1,r20.2.2.1,r20.2.2.2.1,r20.2.2.2.2.1,r20.2.2.2.2.2.1,r20.2.2.2.2.2.2)
 else
 none
 else
 none
abbrev Ztj:=Spec.shp Zkc Zoy Z2c
def Zcw:Ctx:=mC [(129,[],Zu5),(219,[],Zua),(215,[],Zu7),(210,[],Ztm),(220,[],Zu4)] [] 67 1
theorem Z2d:Sound Tryz.prog 146 (Ztj) :=
 tS Zcw Tryz.f146 ⟨Z3m,Z3w,Z3q,Z2j,Z3k,trivial⟩
abbrev Zl4:Shape:=⟨[(0,(.hole y34)),(1,(.hole (.int .i64)))],[],[y34,(.int .i64)],0⟩
abbrev Zpq:Shape:=⟨[(0,(.hole y34)),(1,(.hole (.slice y7))),(2,(.hole (.int .i64)))],[],[y34,(.slice y7),(.int .i64)],0⟩
def Z3x (x:((Int × T17) × Int)):Option ((Int × T17) × List (T7) × Int) :=
 (Z3z x.1).bind fun r19 =>
 bif (Bool.not r19) then
 some ((0,0,([]:List T7)),([]:List T7),1)
 else
 bif (decide (x.2 < 0)) then
 some ((0,0,([]:List T7)),([]:List T7),1)
 else
 bif (x.1.1 != 1) then
 some ((0,0,([]:List T7)),([]:List T7),6)
 else
 bif (x.1.2.1 != x.2) then
 some ((0,0,([]:List T7)),([]:List T7),6)
 else
 some ((2,0,([]:List T7)),x.1.2.2,0)
abbrev Zub:=Spec.shp Zl4 Zpq Z3x
def Zds:Ctx:=mC [(207,[],Zuc)] [] 30 0
theorem Z3y:Sound Tryz.prog 221 (Zub) :=
 tS Zds Tryz.f221 ⟨Z40,trivial⟩
abbrev Zih:Shape:=⟨[(0,(.ptr 0 [])),(52,(.hole (.slice y7))),(53,(.hole (.int .i64))),(54,(.hole (.int .i64)))],bl_15,[(.slice y7),(.int .i64),(.int .i64),y49,y6,y28,y51,y29,y37,y36],1⟩
abbrev Zhg:List (ETag × Shape):=[(.exit 0,⟨[],bl_15,ts_25,1⟩)]
def Za1 (x:(List (T7) × Int × Int × T54 × (Int × Int) × List (T23) × List T51 × List (T24) × List T31 × List (T20))):Option ((List (T7) × Int × Int × T54 × (Int × Int) × List (T23) × List T51 × List (T24) × List T31 × List (T20)) ⊕ (T57)) :=
 let q:=x.2.2;
 let p:=q.2.2.2;
 let u:=p.2.2;
 bif (decide (q.1 < x.2.1)) then
 bif (inb q.1 (List.length x.1)) then
 (Z3j ((getAt (0,0,0) x.1 (toN q.1)).1,(getAt (0,0,0) x.1 (toN q.1)).2.2,q.2.1,q.2.2.1,p.1,p.2.1,u.1,u.2.1,u.2.2)).bind fun r22 =>
 let s:=r22.2.2;
 some (.inl (x.1,x.2.1,(IntKind.wrap .i64 (q.1+1)),r22.1,r22.2.1,s.1,s.2.1,s.2.2.1,s.2.2.2.1,s.2.2.2.2))
 else
 none
 else
 some (.inr (q.2.1,q.2.2.1,p.1,p.2.1,u.1,u.2.1,u.2.2))
def Zd0:Ctx:=mC [(221,[],Zub),(129,[],Zu5),(210,[],Ztm),(220,[],Zu4)] [] 65 1
theorem Za2:CSound Tryz.prog ⟨65,1,true⟩ (.loop (loopOf 9 Tryz.f147)) (pieceSpec Zih Zhg (loop Za1)) :=
 tL Zd0 9 Tryz.f147 ⟨Z3y,Z3m,Z2j,Z3k,trivial⟩
abbrev Zke:Shape:=⟨sl_39,bl_15,ts_27,0⟩
abbrev Zp0:Shape:=⟨[],bl_15,ts_25,1⟩
def Z2g (x:T59):Option T57 :=
 let w:=x.2.2;
 let p:=w.2.2.2;
 let s:=p.2.2;
 bif (inb x.2.1.2.1 (List.length s.1)) then
 (Z3x ((getAt (0,0,([]:List T7)) s.1 (toN x.2.1.2.1)),x.1.1)).bind fun r18 =>
 bif (r18.2.2 != 0) then
 some (w.1,(w.2.1.1,3),w.2.2.1,p.1,p.2.1,s.1,s.2)
 else
 bif (inb x.2.1.2.1 (List.length s.1)) then
 (Z3l (x.1.1,14,x.2.1.2.1,0,(Int.negSucc 0),w.1,w.2.1,w.2.2.1,p.1,p.2.1,(List.set s.1 (toN x.2.1.2.1) r18.1),s.2)).bind fun r19 =>
 let q:=r19.2.2.2;
 (Z2i (x.1.1,r19.2.1,r19.2.2.1,q.1,q.2.1,q.2.2.1,q.2.2.2.1,q.2.2.2.2)).bind fun r20 =>
 let u:=r20.2.2;
 (loop Za1 (r18.2.1,(((List.length r18.2.1):Nat):Int),0,r20.1,r20.2.1,u.1,u.2.1,u.2.2.1,u.2.2.2.1,u.2.2.2.2)).bind fun r21 =>
 let v:=r21.2.2;
 some (r21.1,r21.2.1,v.1,v.2.1,v.2.2.1,v.2.2.2.1,v.2.2.2.2)
 else
 none
 else
 none
abbrev Ztl:=Spec.shp Zke Zp0 Z2g
def Zcz:Ctx:=mC [(221,[],Zub),(129,[],Zu5),(210,[],Ztm),(220,[],Zu4)] [(0,9,pieceSpec Zih Zhg (loop Za1))] 65 1
theorem Z2h:Sound Tryz.prog 147 (Ztl) :=
 tS Zcz Tryz.f147 ⟨Z3y,Z3m,Z2j,Z3k,trivial⟩ ⟨(pL 9 Tryz.f147 Za2),trivial⟩
abbrev Zkb:Shape:=⟨sl_39,bl_15,ts_27,0⟩
abbrev Zox:Shape:=⟨[],bl_15,ts_25,1⟩
def Z2a (x:T59):Option T57 :=
 let q:=x.2.2.2.2;
 let a:=q.2.2;
 let p:=(((List.length q.1):Nat):Int);
 bif (p == 8) then
 some (x.2.2.1,(x.2.2.2.1.1,4),q.1,q.2.1,a.1,a.2.1,a.2.2)
 else
 (Z3l (x.1.1,1,p,0,(Int.negSucc 0),x.2.2.1,x.2.2.2.1,q.1,q.2.1,a.1,a.2.1,a.2.2)).bind fun r18 =>
 let u:=r18.2.2.2;
 (Z3l (p,0,0,0,r18.1,r18.2.1,r18.2.2.1,u.1,u.2.1,u.2.2.1,u.2.2.2.1,u.2.2.2.2)).bind fun r19 =>
 let s:=r19.2.2.2;
 bif (fits ((List.length s.1)+(List.length ((x.2.1.2.1,0,0,false) :: ([]:List T23))))) then
 (Z2k (p,0,r19.2.1,r19.2.2.1,(s.1++((x.2.1.2.1,0,0,false) :: ([]:List T23))),s.2.1,s.2.2.1,s.2.2.2.1,s.2.2.2.2)).bind fun r20 =>
 let v:=r20.2.2;
 (Z2i (x.1.1,r20.1,r20.2.1,v.1,v.2.1,v.2.2.1,v.2.2.2.1,v.2.2.2.2)).bind fun r21 =>
 let w:=r21.2.2;
 some (r21.1,r21.2.1,w.1,w.2.1,w.2.2.1,w.2.2.2.1,w.2.2.2.2)
 else
 none
abbrev Zti:=Spec.shp Zkb Zox Z2a
def Zcv:Ctx:=mC [(129,[],Zu5),(130,[],Ztn),(210,[],Ztm)] [] 50 1
theorem Z2b:Sound Tryz.prog 148 (Zti) :=
 tS Zcv Tryz.f148 ⟨Z3m,Z2l,Z2j,trivial⟩
abbrev Zkp:Shape:=⟨sl_39,bl_15,ts_27,0⟩
abbrev Zpb:Shape:=⟨[],bl_15,ts_25,1⟩
def Z32 (x:T59):Option T57 :=
 let q:=x.2.2.2.2;
 (Z3l (x.1.1,16,x.2.1.2.1,0,(Int.negSucc 0),x.2.2.1,x.2.2.2.1,q.1,q.2.1,q.2.2.1,q.2.2.2.1,q.2.2.2.2)).bind fun r18 =>
 let p:=r18.2.2.2;
 (Z2i (x.1.1,r18.2.1,r18.2.2.1,p.1,p.2.1,p.2.2.1,p.2.2.2.1,p.2.2.2.2)).bind fun r19 =>
 let s:=r19.2.2;
 some (r19.1,r19.2.1,s.1,s.2.1,s.2.2.1,s.2.2.2.1,s.2.2.2.2)
abbrev Ztw:=Spec.shp Zkp Zpb Z32
def Zdb:Ctx:=mC [(129,[],Zu5),(210,[],Ztm)] [] 16 1
theorem Z33:Sound Tryz.prog 149 (Ztw) :=
 tS Zdb Tryz.f149 ⟨Z3m,Z2j,trivial⟩
abbrev Zl1:Shape:=⟨sl_39,bl_15,ts_27,0⟩
abbrev Zpn:Shape:=⟨[],bl_15,ts_25,1⟩
def Z3r (x:T59):Option T57 :=
 let q:=x.2.2.2.2;
 (Z3l (x.1.1,17,x.2.1.2.1,0,(Int.negSucc 0),x.2.2.1,x.2.2.2.1,q.1,q.2.1,q.2.2.1,q.2.2.2.1,q.2.2.2.2)).bind fun r18 =>
 let p:=r18.2.2.2;
 (Z2i (x.1.1,r18.2.1,r18.2.2.1,p.1,p.2.1,p.2.2.1,p.2.2.2.1,p.2.2.2.2)).bind fun r19 =>
 let s:=r19.2.2;
 some (r19.1,r19.2.1,s.1,s.2.1,s.2.2.1,s.2.2.2.1,s.2.2.2.2)
abbrev Zu8:=Spec.shp Zl1 Zpn Z3r
def Zdp:Ctx:=mC [(129,[],Zu5),(210,[],Ztm)] [] 16 1
theorem Z3s:Sound Tryz.prog 150 (Zu8) :=
 tS Zdp Tryz.f150 ⟨Z3m,Z2j,trivial⟩
abbrev Zki:Shape:=⟨sl_39,bl_15,ts_27,0⟩
abbrev Zp4:Shape:=⟨[],bl_15,ts_25,1⟩
def Z2o (x:T59):Option T57 :=
 let p:=x.2.2.2.2;
 (Z2k (x.1.1,x.2.1.2.1,x.2.2.1,x.2.2.2.1,p.1,p.2.1,p.2.2.1,p.2.2.2.1,p.2.2.2.2)).bind fun r18 =>
 let q:=r18.2.2;
 some (r18.1,r18.2.1,q.1,q.2.1,q.2.2.1,q.2.2.2.1,q.2.2.2.2)
abbrev Ztp:=Spec.shp Zki Zp4 Z2o
def Zd4:Ctx:=mC [(130,[],Ztn)] [] 12 1
theorem Z2p:Sound Tryz.prog 151 (Ztp) :=
 tS Zd4 Tryz.f151 ⟨Z2l,trivial⟩
abbrev Zkn:Shape:=⟨sl_39,bl_15,ts_27,0⟩
abbrev Zp9:Shape:=⟨[],bl_15,ts_25,1⟩
def Z2y (x:T59):Option T57 :=
 let p:=x.2.2.2.2;
 let q:=p.2.2;
 bif (inb x.1.1 (List.length p.1)) then
 bif (getAt (0,0,0,false) p.1 (toN x.1.1)).2.2.2 then
 (Z2o (x.1,x.2.1,x.2.2.1,x.2.2.2.1,p.1,p.2.1,q.1,q.2.1,q.2.2)).bind fun r18 =>
 some (r18.1,r18.2.1,r18.2.2.1,r18.2.2.2.1,r18.2.2.2.2.1,r18.2.2.2.2.2.1,r18.2.2.2.2.2.2)
 else
 (Z2i (x.1.1,x.2.2.1,x.2.2.2.1,p.1,p.2.1,q.1,q.2.1,q.2.2)).bind fun r18 =>
 some (r18.1,r18.2.1,r18.2.2.1,r18.2.2.2.1,r18.2.2.2.2.1,r18.2.2.2.2.2.1,r18.2.2.2.2.2.2)
 else
 none
abbrev Ztu:=Spec.shp Zkn Zp9 Z2y
def Zd9:Ctx:=mC [(151,[],Ztp),(210,[],Ztm)] [] 24 1
theorem Z2z:Sound Tryz.prog 152 (Ztu) :=
 tS Zd9 Tryz.f152 ⟨Z2p,Z2j,trivial⟩
abbrev Zk1:Shape:=⟨[(0,(.hole y55)),(1,(.hole y6))],[],[y55,y6],0⟩
abbrev Zon:Shape:=⟨[(0,(.hole y55)),(1,(.hole y36)),(2,(.hole (.int .i64)))],[],[y55,y36,(.int .i64)],0⟩
def Z1q (x:((T54 × T60) × (Int × Int))):Option ((T54 × T60) × List (T20) × Int) :=
 let u:=((((0:Nat)+(1:Nat))+(1:Nat))+(1:Nat));
 let q:=(((u+(1:Nat))+(1:Nat))+(1:Nat));
 let v:=((q+(1:Nat))+(1:Nat));
 let s:=((v+(1:Nat))+(1:Nat));
 (Z1m x.1).bind fun r10 =>
 (Z6v (r10,x.2)).bind fun r11 =>
 bif (Bool.not r11) then
 some (((([]:List Int),0,0,0,([]:List ((List T1) × Bool)),([]:List (List T7))),([]:List T23),([]:List (Int × T49)),([]:List T26),([]:List (Int × T18)),0,0),([]:List T20),4)
 else
 (Z65 x.1.2.1).bind fun r12 =>
 (Z61 x.1.2.2.1).bind fun r13 =>
 (Z67 x.1.2.2.2.1).bind fun r14 =>
 (Z69 x.1.2.2.2.2.1).bind fun r15 =>
 (Z2m (x.2.1,x.1.1,x.1.2.2.2.2.2,r12,r13,r14,r15,([]:List T20))).bind fun r16 =>
 let w:=r16.2.2.2;
 let p:=(x.2,r16.1,r16.2.1,r16.2.2.1,w.1,w.2.1,w.2.2.1,w.2.2.2.1,w.2.2.2.2);
 bif (r16.1.1 == (((0:Nat):Nat):Int)) then
 (Z2u p).bind fun r17 =>
 (Z3a (r17.1,r17.2.1,r17.2.2.1,r17.2.2.2.1,r17.2.2.2.2.1,r17.2.2.2.2.2.1,r17.2.2.2.2.2.2)).bind fun r18 =>
 some ((r18.1,r18.2.2.1,r18.2.2.2.1,r18.2.2.2.2.1,r18.2.2.2.2.2.1,r18.2.1),r18.2.2.2.2.2.2,0)
 else
 bif (r16.1.1 == ((((0:Nat)+(1:Nat)):Nat):Int)) then
 (Z38 p).bind fun r17 =>
 (Z3a (r17.1,r17.2.1,r17.2.2.1,r17.2.2.2.1,r17.2.2.2.2.1,r17.2.2.2.2.2.1,r17.2.2.2.2.2.2)).bind fun r18 =>
 some ((r18.1,r18.2.2.1,r18.2.2.2.1,r18.2.2.2.2.1,r18.2.2.2.2.2.1,r18.2.1),r18.2.2.2.2.2.2,0)
 else
 bif (r16.1.1 == (((((0:Nat)+(1:Nat))+(1:Nat)):Nat):Int)) then
 (Z34 p).bind fun r17 =>
 (Z3a (r17.1,r17.2.1,r17.2.2.1,r17.2.2.2.1,r17.2.2.2.2.1,r17.2.2.2.2.2.1,r17.2.2.2.2.2.2)).bind fun r18 =>
 some ((r18.1,r18.2.2.1,r18.2.2.2.1,r18.2.2.2.2.1,r18.2.2.2.2.2.1,r18.2.1),r18.2.2.2.2.2.2,0)
 else
 bif (r16.1.1 == ((u:Nat):Int)) then
 (Z3h p).bind fun r17 =>
 (Z3a (r17.1,r17.2.1,r17.2.2.1,r17.2.2.2.1,r17.2.2.2.2.1,r17.2.2.2.2.2.1,r17.2.2.2.2.2.2)).bind fun r18 =>
 some ((r18.1,r18.2.2.1,r18.2.2.2.1,r18.2.2.2.2.1,r18.2.2.2.2.2.1,r18.2.1),r18.2.2.2.2.2.2,0)
 else
 bif (r16.1.1 == (((u+(1:Nat)):Nat):Int)) then
 (Z36 p).bind fun r17 =>
 (Z3a (r17.1,r17.2.1,r17.2.2.1,r17.2.2.2.1,r17.2.2.2.2.1,r17.2.2.2.2.2.1,r17.2.2.2.2.2.2)).bind fun r18 =>
 some ((r18.1,r18.2.2.1,r18.2.2.2.1,r18.2.2.2.2.1,r18.2.2.2.2.2.1,r18.2.1),r18.2.2.2.2.2.2,0)
 else
 bif (r16.1.1 == ((((u+(1:Nat))+(1:Nat)):Nat):Int)) then
 (Z2q p).bind fun r17 =>
 (Z3a (r17.1,r17.2.1,r17.2.2.1,r17.2.2.2.1,r17.2.2.2.2.1,r17.2.2.2.2.2.1,r17.2.2.2.2.2.2)).bind fun r18 =>
 some ((r18.1,r18.2.2.1,r18.2.2.2.1,r18.2.2.2.2.1,r18.2.2.2.2.2.1,r18.2.1),r18.2.2.2.2.2.2,0)
 else
 bif (r16.1.1 == ((q:Nat):Int)) then
 (Z3n p).bind fun r17 =>
 (Z3a (r17.1,r17.2.1,r17.2.2.1,r17.2.2.2.1,r17.2.2.2.2.1,r17.2.2.2.2.2.1,r17.2.2.2.2.2.2)).bind fun r18 =>
 some ((r18.1,r18.2.2.1,r18.2.2.2.1,r18.2.2.2.2.1,r18.2.2.2.2.2.1,r18.2.1),r18.2.2.2.2.2.2,0)
 else
 bif (r16.1.1 == (((q+(1:Nat)):Nat):Int)) then
 (Z2c p).bind fun r17 =>
 (Z3a (r17.1,r17.2.1,r17.2.2.1,r17.2.2.2.1,r17.2.2.2.2.1,r17.2.2.2.2.2.1,r17.2.2.2.2.2.2)).bind fun r18 =>
 some ((r18.1,r18.2.2.1,r18.2.2.2.1,r18.2.2.2.2.1,r18.2.2.2.2.2.1,r18.2.1),r18.2.2.2.2.2.2,0)
 else
 bif (r16.1.1 == ((v:Nat):Int)) then
 (Z2g p).bind fun r17 =>
 (Z3a (r17.1,r17.2.1,r17.2.2.1,r17.2.2.2.1,r17.2.2.2.2.1,r17.2.2.2.2.2.1,r17.2.2.2.2.2.2)).bind fun r18 =>
 some ((r18.1,r18.2.2.1,r18.2.2.2.1,r18.2.2.2.2.1,r18.2.2.2.2.2.1,r18.2.1),r18.2.2.2.2.2.2,0)
 else
 bif (r16.1.1 == (((v+(1:Nat)):Nat):Int)) then
 (Z2a p).bind fun r17 =>
 (Z3a (r17.1,r17.2.1,r17.2.2.1,r17.2.2.2.1,r17.2.2.2.2.1,r17.2.2.2.2.2.1,r17.2.2.2.2.2.2)).bind fun r18 =>
 some ((r18.1,r18.2.2.1,r18.2.2.2.1,r18.2.2.2.2.1,r18.2.2.2.2.2.1,r18.2.1),r18.2.2.2.2.2.2,0)
 else
 bif (r16.1.1 == ((s:Nat):Int)) then
 (Z32 p).bind fun r17 =>
 (Z3a (r17.1,r17.2.1,r17.2.2.1,r17.2.2.2.1,r17.2.2.2.2.1,r17.2.2.2.2.2.1,r17.2.2.2.2.2.2)).bind fun r18 =>
 some ((r18.1,r18.2.2.1,r18.2.2.2.1,r18.2.2.2.2.1,r18.2.2.2.2.2.1,r18.2.1),r18.2.2.2.2.2.2,0)
 else
 bif (r16.1.1 == (((s+(1:Nat)):Nat):Int)) then
 (Z3r p).bind fun r17 =>
 (Z3a (r17.1,r17.2.1,r17.2.2.1,r17.2.2.2.1,r17.2.2.2.2.1,r17.2.2.2.2.2.1,r17.2.2.2.2.2.2)).bind fun r18 =>
 some ((r18.1,r18.2.2.1,r18.2.2.2.1,r18.2.2.2.2.1,r18.2.2.2.2.2.1,r18.2.1),r18.2.2.2.2.2.2,0)
 else
 bif (r16.1.1 == ((((s+(1:Nat))+(1:Nat)):Nat):Int)) then
 (Z2o p).bind fun r17 =>
 (Z3a (r17.1,r17.2.1,r17.2.2.1,r17.2.2.2.1,r17.2.2.2.2.1,r17.2.2.2.2.2.1,r17.2.2.2.2.2.2)).bind fun r18 =>
 some ((r18.1,r18.2.2.1,r18.2.2.2.1,r18.2.2.2.2.1,r18.2.2.2.2.2.1,r18.2.1),r18.2.2.2.2.2.2,0)
 else
 bif (r16.1.1 == (((((s+(1:Nat))+(1:Nat))+(1:Nat)):Nat):Int)) then
 (Z2y p).bind fun r17 =>
 (Z3a (r17.1,r17.2.1,r17.2.2.1,r17.2.2.2.1,r17.2.2.2.2.1,r17.2.2.2.2.2.1,r17.2.2.2.2.2.2)).bind fun r18 =>
 some ((r18.1,r18.2.2.1,r18.2.2.2.1,r18.2.2.2.2.1,r18.2.2.2.2.2.1,r18.2.1),r18.2.2.2.2.2.2,0)
 else
 none
abbrev Zt8:=Spec.shp Zk1 Zon Z1q
def Zch:Ctx:=mC [(98,[],Zt6),(134,[],Zvr),(135,[],Zve),(136,[],Zvc),(137,[],Zvf),(138,[],Zvg),(153,[],Zto),(139,[],Zts),(131,[],Zu0),(140,[],Ztz),(141,[],Ztx),(142,[],Zu3),(143,[],Zty),(144,[],Ztq),(145,[],Zu6),(146,[],Ztj),(147,[],Ztl),(148,[],Zti),(149,[],Ztw),(150,[],Zu8),(151,[],Ztp),(152,[],Ztu)] [] 70 0
theorem Z1r:Sound Tryz.prog 99 (Zt8) :=
 tS Zch Tryz.f99 ⟨Z1n,Z6w,Z66,Z62,Z68,Z6a,Z2n,Z2v,Z3g,Z39,Z35,Z3i,Z37,Z2r,Z3o,Z2d,Z2h,Z2b,Z33,Z3s,Z2p,Z2z,trivial⟩
abbrev Zis:Shape:=⟨[(1,(.fn 58 (.cons (.ptr 0 []) .nil) .nil)),(6,(.ptr 1 [])),(8,(.ptr 2 [])),(11,(.ptr 3 [])),(12,(.sl 4)),(27,(.hole (.int .i64))),(28,(.hole (.int .i64)))],bl_26,[(.int .i64),(.int .i64),(.one y1),(.int .i64),y55,(.int .i64),y1,y36,(.slice y6)],1⟩
abbrev Zhr:List (ETag × Shape):=[(.exit 0,⟨[(6,(.ptr 1 [])),(8,(.ptr 2 [])),(11,(.ptr 3 [])),(12,(.sl 4))],bl_26,[(.one y1),(.int .i64),y55,(.int .i64),y1,y36,(.slice y6)],1⟩)]
def Zan (x:(Int × Int × List Int × Int × (T54 × T60) × Int × List Int × List (T20) × List (Int × Int))):Option ((Int × Int × List Int × Int × (T54 × T60) × Int × List Int × List (T20) × List (Int × Int)) ⊕ (List Int × Int × (T54 × T60) × Int × List Int × List (T20) × List (Int × Int))) :=
 let v:=x.2.2;
 let p:=v.2.2;
 let u:=p.2.2;
 bif (decide (x.2.1 < x.1)) then
 bif (p.1.2.2.2.2.2.2 != 0) then
 some (.inr (v.1,v.2.1,p.1,p.2.1,u.1,u.2.1,u.2.2))
 else
 (Z1m p.1).bind fun r7 =>
 let s:=(((List.length r7):Nat):Int);
 (Z5x (s,v.1)).bind fun r8 =>
 let q:=(getAt ((0:Int),(0:Int)) r7 (toN r8.1));
 bif (inb r8.1 (List.length r7)) then
 (Z1q (p.1,q)).bind fun r9 =>
 bif (fits ((List.length u.2.1)+(List.length r9.2.1))) then
 bif (fits ((List.length u.2.2)+(List.length (q :: ([]:List (Int × Int)))))) then
 bif (fits ((List.length u.1)+(List.length (s :: ([]:List Int))))) then
 some (.inl (x.1,(IntKind.wrap .i64 (x.2.1+1)),r8.2,v.2.1,r9.1,p.2.1,(u.1++(s :: ([]:List Int))),(u.2.1++r9.2.1),(u.2.2++(q :: ([]:List (Int × Int))))))
 else
 none
 else
 none
 else
 none
 else
 none
 else
 some (.inr (v.1,v.2.1,p.1,p.2.1,u.1,u.2.1,u.2.2))
def Zf3:Ctx:=mC [(96,[],Zt7),(97,[],Zvd),(98,[],Zt6),(58,[],Zva),(99,[],Zt8)] [] 76 1
theorem Zao:CSound Tryz.prog ⟨76,1,true⟩ (.loop (loopOf 6 Tryz.f59)) (pieceSpec Zis Zhr (loop Zan)) :=
 tL Zf3 6 Tryz.f59 ⟨Z1p,Z64,Z1n,Z5y,Z1r,trivial⟩
abbrev Zm5:Shape:=⟨[(0,(.hole y49)),(1,(.fn 58 (.cons (.ptr 0 []) .nil) .nil)),(2,(.hole (.int .i64)))],[.var (.hole (.one y1))],[y49,(.int .i64),(.one y1)],0⟩
abbrev Zqr:Shape:=⟨[(0,(.hole y48)),(1,(.hole y1))],[.var (.hole (.one y1))],[y48,y1,(.one y1)],1⟩
def Z5z (x:(T54 × Int × List Int)):Option ((Int × T40) × List Int × List Int) :=
 (Z1o x.1).bind fun r4 =>
 (Z63 r4.2.1).bind fun r5 =>
 (loop Zan (x.2.1,0,x.2.2,0,r4.1,0,([]:List Int),r5,([]:List (Int × Int)))).bind fun r6 =>
 let p:=r6.2.2.2.2;
 bif (r6.2.2.1.2.2.2.2.2.2 == 0) then
 some ((5,p.2.1,p.2.2),p.1,r6.1)
 else
 some ((r6.2.2.1.2.2.2.2.2.2,p.2.1,p.2.2),p.1,r6.1)
abbrev Zvb:=Spec.shp Zm5 Zqr Z5z
def Zf2:Ctx:=mC [(96,[],Zt7),(97,[],Zvd),(98,[],Zt6),(58,[],Zva),(99,[],Zt8)] [(0,6,pieceSpec Zis Zhr (loop Zan))] 76 1
theorem Z60:Sound Tryz.prog 59 (Zvb) :=
 tS Zf2 Tryz.f59 ⟨Z1p,Z64,Z1n,Z5y,Z1r,trivial⟩ ⟨(pL 6 Tryz.f59 Zao),trivial⟩
abbrev Zm2:Shape:=⟨[(0,(.hole y49)),(1,(.hole y1)),(2,(.hole (.int .i64)))],[],[y49,y1,(.int .i64)],0⟩
abbrev Zqo:Shape:=⟨[(0,(.hole y48)),(1,(.hole (.int .i64)))],[],[y48,(.int .i64)],0⟩
def Z5t (x:(T54 × List Int × Int)):Option ((Int × T40) × Int) :=
 (Z5v (x.1,x.2.2)).bind fun r2 =>
 bif (r2 != 0) then
 some ((0,([]:List T20),([]:List (Int × Int))),r2)
 else
 (Z5z (x.1,x.2.2,x.2.1)).bind fun r3 =>
 some (r3.1,0)
abbrev Zv8:=Spec.shp Zm2 Zqo Z5t
def Zez:Ctx:=mC [(57,[],Zv9),(59,[58],Zvb)] [] 31 0
theorem Z5u:Sound Tryz.prog 13 (Zv8) :=
 tS Zez Tryz.f13 ⟨Z5w,Z60,trivial⟩
abbrev Zjp:Shape:=⟨sl_17,[],ts_17,0⟩
abbrev Zob:Shape:=⟨sl_14,[],ts_14,0⟩
def Z12 (x:T38):Option T3 :=
 (Zy (x.1,x.2.1)).bind fun r4 =>
 bif (r4.2 != 0) then
 some (([]:List Int),r4.2)
 else
 bif (decide (x.2.2 < 0)) then
 some (([]:List Int),3)
 else
 bif (decide (x.2.2 ≥ (((List.length x.2.1):Nat):Int))) then
 some (([]:List Int),3)
 else
 bif (inb x.2.2 (List.length r4.1)) then
 some ((getAt ([]:List Int) r4.1 (toN x.2.2)),0)
 else
 none
abbrev Zsw:=Spec.shp Zjp Zob Z12
def Zc1:Ctx:=mC [(15,[],Zsv)] [] 33 0
theorem Z13:Sound Tryz.prog 60 (Zsw) :=
 tS Zc1 Tryz.f60 ⟨Zz,trivial⟩
abbrev Zla:Shape:=⟨[],[],[],0⟩
abbrev Zpw:Shape:=⟨sl_1,[],ts_1,0⟩
def Z49 (x:Unit):Option (Bool) :=
 (Z12 (([]:List Int),((0,0,0,0,(Int.negSucc 0)) :: ((0,1,1,0,(Int.negSucc 0)) :: ((1,0,0,0,1) :: ([]:List T20)))),2)).bind fun r3 =>
 bif (r3.2 == 0) then
 bif ((((List.length r3.1):Nat):Int) == 1) then
 bif (inb 0 (List.length r3.1)) then
 some ((getAt 0 r3.1 (toN 0)) == 1)
 else
 none
 else
 some false
 else
 some false
abbrev Zuh:=Spec.shp Zla Zpw Z49
def Ze2:Ctx:=mC [(60,[2000000],Zsw)] [] 24 0
theorem Z4a:Sound Tryz.prog 14 (Zuh) :=
 tS Ze2 Tryz.f14 ⟨Z13,trivial⟩
abbrev Zil:Shape:=⟨[(3,(.ptr 0 [])),(7,(.ptr 1 [])),(9,(.ptr 2 [])),(11,(.ptr 3 [])),(12,(.ptr 4 [])),(63,(.hole y36)),(64,(.hole (.int .i64))),(65,(.hole (.int .i64))),(82,(.hole y1)),(83,(.hole (.int .i64))),(84,(.hole (.int .i64)))],bl_27,[y36,(.int .i64),(.int .i64),y1,(.int .i64),(.int .i64),y49,y48,(.slice y1),(.int .i64),y31],0⟩
abbrev Zhk:List (ETag × Shape):=[(.ret,⟨sl_33,[],ts_1,0⟩),(.exit 2,⟨[(3,(.ptr 0 [])),(7,(.ptr 1 [])),(9,(.ptr 2 [])),(11,(.ptr 3 [])),(12,(.ptr 4 [])),(63,(.hole y36)),(64,(.hole (.int .i64))),(65,(.hole (.int .i64)))],bl_27,[y36,(.int .i64),(.int .i64),y49,y48,(.slice y1),(.int .i64),y31],0⟩)]
def Za9 (x:(List (T20) × Int × Int × List Int × Int × Int × T54 × (Int × T40) × List (List Int) × Int × T20)):Option ((List (T20) × Int × Int × List Int × Int × Int × T54 × (Int × T40) × List (List Int) × Int × T20) ⊕ ((Bool) ⊕ (List (T20) × Int × Int × T54 × (Int × T40) × List (List Int) × Int × T20))) :=
 let w:=IntKind.wrap .i64;
 let v:=x.2.2.2;
 let p:=v.2.2;
 let u:=p.2.2.2;
 let s:=(getAt (0:Int) v.1 (toN p.1));
 let q:=(p.2.1,p.2.2.1,u.1,u.2.1,u.2.2);
 bif (decide (p.1 < v.2.1)) then
 bif (inb p.1 (List.length v.1)) then
 bif (decide (s < 0)) then
 some (.inr (.inl false))
 else
 bif (decide (s ≥ u.2.1)) then
 some (.inr (.inl false))
 else
 bif (decide (p.1 > 0)) then
 bif (inb u.2.1 (List.length u.1)) then
 bif (inb (w (p.1 - 1)) (List.length (getAt ([]:List Int) u.1 (toN u.2.1)))) then
 bif (decide ((getAt 0 (getAt ([]:List Int) u.1 (toN u.2.1)) (toN (w (p.1 - 1)))) ≥ s)) then
 some (.inr (.inl false))
 else
 some (.inl (x.1,x.2.1,x.2.2.1,v.1,v.2.1,(w (p.1+1)),q))
 else
 none
 else
 none
 else
 some (.inl (x.1,x.2.1,x.2.2.1,v.1,v.2.1,(w (p.1+1)),q))
 else
 none
 else
 some (.inr (.inr (x.1,x.2.1,x.2.2.1,q)))
def Ze0:Ctx:=mC [(13,[],Zv8),(14,[],Zuh),(15,[],Zsv)] [] 172 0 true [] [(1,[1])]
theorem Zaa:CSound Tryz.prog ⟨172,0,true⟩ (.loop (loopOf 15 Tryz.f3)) (pieceSpec Zil Zhk (loop Za9)) :=
 tL Ze0 15 Tryz.f3 ⟨Z5u,Z4a,Zz,trivial⟩
abbrev Zim:Shape:=⟨[(0,(.hole (.int .i64))),(1,(.hole (.int .i64))),(4,(.ptr 2 [])),(5,(.ptr 3 [])),(15,(.hole y1)),(16,(.hole (.int .i64))),(17,(.hole (.int .i64)))],bl_28,[(.int .i64),(.int .i64),y1,(.int .i64),(.int .i64),(.slice y1),(.int .i64),y48,y31],4⟩
abbrev Zhl:List (ETag × Shape):=[(.ret,⟨[(8,(.hole .bool))],bl_28,[.bool,(.slice y1),(.int .i64),y48,y31],4⟩),(.exit 0,⟨[],bl_28,[(.slice y1),(.int .i64),y48,y31],4⟩)]
def Zab (x:(Int × Int × List Int × Int × Int × List (List Int) × Int × (Int × T40) × T20)):Option ((Int × Int × List Int × Int × Int × List (List Int) × Int × (Int × T40) × T20) ⊕ ((Bool × List (List Int) × Int × (Int × T40) × T20) ⊕ (List (List Int) × Int × (Int × T40) × T20))) :=
 let w:=x.2.2;
 let u:=w.2.2;
 let v:=u.2.2.2;
 let q:=(u.2.1,u.2.2.1,v.1,v.2);
 let s:=(.inl (x.1,x.2.1,w.1,w.2.1,(IntKind.wrap .i64 (u.1+(1:Int))),q));
 let p:=(getAt ((0:Int),(0:Int),(0:Int),(0:Int),(0:Int)) v.1.2.1 (toN (getAt (0:Int) w.1 (toN u.1))));
 bif (decide (u.1 < w.2.1)) then
 bif (inb u.1 (List.length w.1)) then
 bif (inb (getAt 0 w.1 (toN u.1)) (List.length v.1.2.1)) then
 bif (p.1 != v.2.1) then
 bif (p.2.1 == x.1) then
 bif (p.2.2.1 == x.2.1) then
 some (.inr (.inl (true,q)))
 else
 bif (p.2.1 == 8) then
 some (.inr (.inl (true,q)))
 else
 some s
 else
 bif (p.2.1 == 8) then
 some (.inr (.inl (true,q)))
 else
 some s
 else
 some s
 else
 none
 else
 none
 else
 some (.inr (.inr q))
def Ze1:Ctx:=mC [] [] 49 4
theorem Zac:CSound Tryz.prog ⟨49,4,true⟩ (.loop (loopOf 3 Tryz.f16)) (pieceSpec Zim Zhl (loop Zab)) :=
 tL Ze1 3 Tryz.f16 trivial
abbrev Zl9:Shape:=⟨[(0,(.hole (.int .i64))),(1,(.hole (.int .i64))),(2,(.ptr 0 [])),(3,(.ptr 1 [])),(4,(.ptr 2 [])),(5,(.ptr 3 []))],bl_28,[(.int .i64),(.int .i64),(.slice y1),(.int .i64),y48,y31],0⟩
abbrev Zpv:Shape:=⟨sl_1,bl_28,[.bool,(.slice y1),(.int .i64),y48,y31],4⟩
def Z47 (x:(Int × Int × List (List Int) × Int × (Int × T40) × T20)):Option (Bool × List (List Int) × Int × (Int × T40) × T20) :=
 let p:=x.2.2;
 bif (inb p.2.1 (List.length p.1)) then
 (loop Zab (x.1,x.2.1,(getAt ([]:List Int) p.1 (toN p.2.1)),(((List.length (getAt ([]:List Int) p.1 (toN p.2.1))):Nat):Int),0,p.1,p.2.1,p.2.2.1,p.2.2.2)).bind fun r8 =>
 match r8 with
 | .inl y9 =>
 some (y9.1,y9.2.1,y9.2.2.1,y9.2.2.2.1,y9.2.2.2.2)
 | .inr y9 =>
 some (false,y9.1,y9.2.1,y9.2.2.1,y9.2.2.2)
 else
 none
abbrev Zug:=Spec.shp Zl9 Zpv Z47
def Zdy:Ctx:=mC [] [(0,3,pieceSpec Zim Zhl (loop Zab))] 49 4
theorem Z48:Sound Tryz.prog 16 (Zug) :=
 tS Zdy Tryz.f16 trivial ⟨(pL 3 Tryz.f16 Zac),trivial⟩
abbrev Zin:Shape:=⟨[(0,(.hole y36)),(2,(.hole (.int .i64))),(9,(.hole y1)),(10,(.hole (.int .i64))),(11,(.hole (.int .i64)))],[],[y36,(.int .i64),y1,(.int .i64),(.int .i64)],0⟩
abbrev Zhm:List (ETag × Shape):=[(.ret,⟨sl_33,[],ts_1,0⟩),(.exit 0,⟨[],[],[],0⟩)]
def Zad (x:(List (T20) × Int × List Int × Int × Int)):Option ((List (T20) × Int × List Int × Int × Int) ⊕ ((Bool) ⊕ Unit)) :=
 let p:=x.2.2;
 bif (decide (p.2.2 < p.2.1)) then
 bif (inb p.2.2 (List.length p.1)) then
 bif (inb (getAt 0 p.1 (toN p.2.2)) (List.length x.1)) then
 bif ((getAt (0,0,0,0,0) x.1 (toN (getAt 0 p.1 (toN p.2.2)))).1 != x.2.1) then
 some (.inr (.inl false))
 else
 some (.inl (x.1,x.2.1,p.1,p.2.1,(IntKind.wrap .i64 (p.2.2+1))))
 else
 none
 else
 none
 else
 some (.inr (.inr ()))
def Ze4:Ctx:=mC [] [] 23 0
theorem Zae:CSound Tryz.prog ⟨23,0,true⟩ (.loop (loopOf 3 Tryz.f17)) (pieceSpec Zin Zhm (loop Zad)) :=
 tL Ze4 3 Tryz.f17 trivial
abbrev Zlb:Shape:=⟨[(0,(.hole y36)),(1,(.hole y1)),(2,(.hole (.int .i64)))],[],[y36,y1,(.int .i64)],0⟩
abbrev Zpx:Shape:=⟨sl_1,[],ts_1,0⟩
def Z4b (x:(List (T20) × List Int × Int)):Option (Bool) :=
 (loop Zad (x.1,x.2.2,x.2.1,(((List.length x.2.1):Nat):Int),0)).bind fun r9 =>
 match r9 with
 | .inl y10 =>
 some y10
 | .inr y10 =>
 some true
abbrev Zui:=Spec.shp Zlb Zpx Z4b
def Ze3:Ctx:=mC [] [(0,3,pieceSpec Zin Zhm (loop Zad))] 23 0
theorem Z4c:Sound Tryz.prog 17 (Zui) :=
 tS Ze3 Tryz.f17 trivial ⟨(pL 3 Tryz.f17 Zae),trivial⟩
end
end Go.Proofs.YtifbgkikkiallaaGreat.VX.VxZ_Z
set_option maxRecDepth 100000
namespace Go.Proofs.YtifbgkikkiallaaGreat.VX.VxZ_Z
open Go.Proofs Go.Proofs.YtifbgkikkiallaaGreat.VX.T2
noncomputable section
abbrev Zik:Shape:=⟨[(3,(.ptr 0 [])),(7,(.ptr 1 [])),(9,(.ptr 2 [])),(63,(.hole y36)),(64,(.hole (.int .i64))),(65,(.hole (.int .i64)))],[.var (.hole y49),.var (.hole y48),.var (.hole (.slice y1))],[y36,(.int .i64),(.int .i64),y49,y48,(.slice y1)],0⟩
abbrev Zhj:List (ETag × Shape):=[(.ret,⟨sl_33,[],ts_1,0⟩),(.exit 0,⟨[],[],[],0⟩)]
def Za7 (x:(List (T20) × Int × Int × T54 × (Int × T40) × List (List Int))):Option ((List (T20) × Int × Int × T54 × (Int × T40) × List (List Int)) ⊕ ((Bool) ⊕ Unit)) :=
 let v:=Bool.not;
 let u:=IntKind.wrap .i64;
 let q:=x.2.2;
 let s:=q.2.2.2;
 let p:=(getAt ([]:List Int) s (toN q.1));
 bif (decide (q.1 < x.2.1)) then
 bif (inb q.1 (List.length x.1)) then
 bif (inb q.1 (List.length s)) then
 bif (v (((((List.length p):Nat):Int) == 0) == (q.1 == 0))) then
 some (.inr (.inl false))
 else
 bif (inb q.1 (List.length s)) then
 (loop Za9 (x.1,x.2.1,q.1,p,(((List.length p):Nat):Int),0,q.2.1,q.2.2.1,s,q.1,(getAt (0,0,0,0,0) x.1 (toN q.1)))).bind fun r5 =>
 match r5 with
 | .inl y6 =>
 some (.inr (.inl y6))
 | .inr y6 =>
 bif (y6.2.2.2.2.2.2.2.2.1 == 5) then
 (Z47 (2,y6.2.2.2.2.2.2.2.2.2.1,y6.2.2.2.2.2.1,y6.2.2.2.2.2.2.1,y6.2.2.2.2.1,y6.2.2.2.2.2.2.2)).bind fun r7 =>
 bif (v r7.1) then
 bif (inb r7.2.2.1 (List.length r7.2.1)) then
 (Z4b (r7.2.2.2.1.2.1,(getAt ([]:List Int) r7.2.1 (toN r7.2.2.1)),r7.2.2.2.2.1)).bind fun r8 =>
 bif (v r8) then
 some (.inr (.inl false))
 else
 bif (decide (r7.2.2.2.2.2.2.1 < 0)) then
 some (.inr (.inl false))
 else
 bif (r7.2.2.2.2.2.1 == 3) then
 bif (decide (r7.2.2.2.2.2.2.1 ≥ (((List.length y6.2.2.2.1.1):Nat):Int))) then
 some (.inr (.inl false))
 else
 bif (r7.2.2.2.2.2.1 == 3) then
 bif (inb r7.2.2.2.2.2.2.1 (List.length y6.2.2.2.1.1)) then
 bif ((getAt 0 y6.2.2.2.1.1 (toN r7.2.2.2.2.2.2.1)) == 0) then
 (Z47 (4,r7.2.2.2.2.2.2.1,r7.2.1,r7.2.2.1,r7.2.2.2.1,r7.2.2.2.2)).bind fun r9 =>
 bif (v r9.1) then
 some (.inr (.inl false))
 else
 some (.inl (y6.1,y6.2.1,(u (y6.2.2.1+1)),y6.2.2.2.1,r9.2.2.2.1,r9.2.1))
 else
 some (.inl (y6.1,y6.2.1,(u (y6.2.2.1+1)),y6.2.2.2.1,r7.2.2.2.1,r7.2.1))
 else
 none
 else
 some (.inl (y6.1,y6.2.1,(u (y6.2.2.1+1)),y6.2.2.2.1,r7.2.2.2.1,r7.2.1))
 else
 bif (r7.2.2.2.2.2.1 == 3) then
 bif (inb r7.2.2.2.2.2.2.1 (List.length y6.2.2.2.1.1)) then
 bif ((getAt 0 y6.2.2.2.1.1 (toN r7.2.2.2.2.2.2.1)) == 0) then
 (Z47 (4,r7.2.2.2.2.2.2.1,r7.2.1,r7.2.2.1,r7.2.2.2.1,r7.2.2.2.2)).bind fun r9 =>
 bif (v r9.1) then
 some (.inr (.inl false))
 else
 some (.inl (y6.1,y6.2.1,(u (y6.2.2.1+1)),y6.2.2.2.1,r9.2.2.2.1,r9.2.1))
 else
 some (.inl (y6.1,y6.2.1,(u (y6.2.2.1+1)),y6.2.2.2.1,r7.2.2.2.1,r7.2.1))
 else
 none
 else
 some (.inl (y6.1,y6.2.1,(u (y6.2.2.1+1)),y6.2.2.2.1,r7.2.2.2.1,r7.2.1))
 else
 none
 else
 bif (decide (r7.2.2.2.2.2.2.1 < 0)) then
 some (.inr (.inl false))
 else
 bif (r7.2.2.2.2.2.1 == 3) then
 bif (decide (r7.2.2.2.2.2.2.1 ≥ (((List.length y6.2.2.2.1.1):Nat):Int))) then
 some (.inr (.inl false))
 else
 bif (r7.2.2.2.2.2.1 == 3) then
 bif (inb r7.2.2.2.2.2.2.1 (List.length y6.2.2.2.1.1)) then
 bif ((getAt 0 y6.2.2.2.1.1 (toN r7.2.2.2.2.2.2.1)) == 0) then
 (Z47 (4,r7.2.2.2.2.2.2.1,r7.2.1,r7.2.2.1,r7.2.2.2.1,r7.2.2.2.2)).bind fun r8 =>
 bif (v r8.1) then
 some (.inr (.inl false))
 else
 some (.inl (y6.1,y6.2.1,(u (y6.2.2.1+1)),y6.2.2.2.1,r8.2.2.2.1,r8.2.1))
 else
 some (.inl (y6.1,y6.2.1,(u (y6.2.2.1+1)),y6.2.2.2.1,r7.2.2.2.1,r7.2.1))
 else
 none
 else
 some (.inl (y6.1,y6.2.1,(u (y6.2.2.1+1)),y6.2.2.2.1,r7.2.2.2.1,r7.2.1))
 else
 bif (r7.2.2.2.2.2.1 == 3) then
 bif (inb r7.2.2.2.2.2.2.1 (List.length y6.2.2.2.1.1)) then
 bif ((getAt 0 y6.2.2.2.1.1 (toN r7.2.2.2.2.2.2.1)) == 0) then
 (Z47 (4,r7.2.2.2.2.2.2.1,r7.2.1,r7.2.2.1,r7.2.2.2.1,r7.2.2.2.2)).bind fun r8 =>
 bif (v r8.1) then
 some (.inr (.inl false))
 else
 some (.inl (y6.1,y6.2.1,(u (y6.2.2.1+1)),y6.2.2.2.1,r8.2.2.2.1,r8.2.1))
 else
 some (.inl (y6.1,y6.2.1,(u (y6.2.2.1+1)),y6.2.2.2.1,r7.2.2.2.1,r7.2.1))
 else
 none
 else
 some (.inl (y6.1,y6.2.1,(u (y6.2.2.1+1)),y6.2.2.2.1,r7.2.2.2.1,r7.2.1))
 else
 bif (decide (y6.2.2.2.2.2.2.2.2.2.1 < 0)) then
 some (.inr (.inl false))
 else
 bif (y6.2.2.2.2.2.2.2.2.1 == 3) then
 bif (decide (y6.2.2.2.2.2.2.2.2.2.1 ≥ (((List.length y6.2.2.2.1.1):Nat):Int))) then
 some (.inr (.inl false))
 else
 bif (y6.2.2.2.2.2.2.2.2.1 == 3) then
 bif (inb y6.2.2.2.2.2.2.2.2.2.1 (List.length y6.2.2.2.1.1)) then
 bif ((getAt 0 y6.2.2.2.1.1 (toN y6.2.2.2.2.2.2.2.2.2.1)) == 0) then
 (Z47 (4,y6.2.2.2.2.2.2.2.2.2.1,y6.2.2.2.2.2.1,y6.2.2.2.2.2.2.1,y6.2.2.2.2.1,y6.2.2.2.2.2.2.2)).bind fun r7 =>
 bif (v r7.1) then
 some (.inr (.inl false))
 else
 some (.inl (y6.1,y6.2.1,(u (y6.2.2.1+1)),y6.2.2.2.1,r7.2.2.2.1,r7.2.1))
 else
 some (.inl (y6.1,y6.2.1,(u (y6.2.2.1+1)),y6.2.2.2.1,y6.2.2.2.2.1,y6.2.2.2.2.2.1))
 else
 none
 else
 some (.inl (y6.1,y6.2.1,(u (y6.2.2.1+1)),y6.2.2.2.1,y6.2.2.2.2.1,y6.2.2.2.2.2.1))
 else
 bif (y6.2.2.2.2.2.2.2.2.1 == 3) then
 bif (inb y6.2.2.2.2.2.2.2.2.2.1 (List.length y6.2.2.2.1.1)) then
 bif ((getAt 0 y6.2.2.2.1.1 (toN y6.2.2.2.2.2.2.2.2.2.1)) == 0) then
 (Z47 (4,y6.2.2.2.2.2.2.2.2.2.1,y6.2.2.2.2.2.1,y6.2.2.2.2.2.2.1,y6.2.2.2.2.1,y6.2.2.2.2.2.2.2)).bind fun r7 =>
 bif (v r7.1) then
 some (.inr (.inl false))
 else
 some (.inl (y6.1,y6.2.1,(u (y6.2.2.1+1)),y6.2.2.2.1,r7.2.2.2.1,r7.2.1))
 else
 some (.inl (y6.1,y6.2.1,(u (y6.2.2.1+1)),y6.2.2.2.1,y6.2.2.2.2.1,y6.2.2.2.2.2.1))
 else
 none
 else
 some (.inl (y6.1,y6.2.1,(u (y6.2.2.1+1)),y6.2.2.2.1,y6.2.2.2.2.1,y6.2.2.2.2.2.1))
 else
 none
 else
 none
 else
 none
 else
 some (.inr (.inr ()))
def Zdz:Ctx:=mC [(13,[],Zv8),(14,[],Zuh),(15,[],Zsv),(16,[],Zug),(17,[],Zui)] [(0,15,pieceSpec Zil Zhk (loop Za9))] 172 0 true [] [(1,[1])]
theorem Za8:CSound Tryz.prog ⟨172,0,true⟩ (.loop (loopOf 10 Tryz.f3)) (pieceSpec Zik Zhj (loop Za7)) :=
 tL Zdz 10 Tryz.f3 ⟨Z5u,Z4a,Zz,Z48,Z4c,trivial⟩ ⟨(pL 15 Tryz.f3 Zaa),trivial⟩
def F_plaitlaw15_EdgesRun (x:(T54 × List Int × Int)):Option (Bool) :=
 let p:=IntKind.wrap .i64;
 bif (sub3 0 (Min.min (((List.length x.2.1):Nat):Int) 100) (List.length x.2.1)) then
 (Z5t (x.1,(cut x.2.1 (toN 0) ((toN (Min.min (((List.length x.2.1):Nat):Int) 100)) - (toN 0))),(p (1+(Int.tmod (p ((Int.tmod x.2.2 100)+100)) 100))))).bind fun r1 =>
 bif (r1.2 != 0) then
 (Z49 ()).bind fun r2 =>
 bif r2 then
 some (r1.2 == 1)
 else
 some false
 else
 (Zy (x.1.1,r1.1.2.1)).bind fun r2 =>
 bif (r2.2 != 0) then
 some false
 else
 bif ((((List.length r2.1):Nat):Int) != (((List.length r1.1.2.1):Nat):Int)) then
 some false
 else
 (Z49 ()).bind fun r3 =>
 bif (Bool.not r3) then
 some false
 else
 (loop Za7 (r1.1.2.1,(((List.length r1.1.2.1):Nat):Int),0,x.1,r1.1,r2.1)).bind fun r4 =>
 match r4 with
 | .inl y5 =>
 some y5
 | .inr y5 =>
 some true
 else
 none
def Zdx:Ctx:=mC [(13,[],Zv8),(14,[],Zuh),(15,[],Zsv),(16,[],Zug),(17,[],Zui)] [(0,15,pieceSpec Zil Zhk (loop Za9)),(0,10,pieceSpec Zik Zhj (loop Za7))] 172 0 true [] [(1,[1])]
theorem F_plaitlaw15_EdgesRun_ok:Sound Tryz.prog 3 (Spec.pure [y49,y1,(.int .i64)] [.bool] F_plaitlaw15_EdgesRun) :=
 tP Zdx Tryz.f3 ⟨Z5u,Z4a,Zz,Z48,Z4c,trivial⟩ ⟨(pL 15 Tryz.f3 Zaa),(pL 10 Tryz.f3 Za8),trivial⟩
end
end Go.Proofs.YtifbgkikkiallaaGreat.VX.VxZ_Z

