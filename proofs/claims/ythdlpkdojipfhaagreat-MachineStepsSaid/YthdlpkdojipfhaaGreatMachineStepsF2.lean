/- Laid for the law MachineSteps. -/
import Derived.Test.YthdlpkdojipfhaaGreatMachineStepsF1
set_option linter.unusedVariables false
set_option maxRecDepth 100000
namespace Go.Proofs.YthdlpkdojipfhaaGreat.VX.VxM_M
open Go.Proofs Go.Proofs.YthdlpkdojipfhaaGreat.VX.T2
noncomputable section
abbrev Zte:Shape:={ sl:=[(0,(.hole (.slice y4))),(1,(.hole (.slice y4)))],bl:=[],ts:=[(.slice y4),(.slice y4)],pin:=0 }
abbrev Zyv:Shape:={ sl:=sl_1,bl:=[],ts:=ts_1,pin:=0 }
def Z5z (x:(List (Int × Int) × List (Int × Int))):Option (Bool) :=
 bif ((((List.length x.1):Nat):Int) != (((List.length x.2):Nat):Int)) then
 some false
 else
 (loop Zdb (x.1,x.2,(((List.length x.1):Nat):Int),(0:Int))).bind fun r12 =>
 match r12 with
 | .inl y13 =>
 some y13
 | .inr y13 =>
 some true
abbrev Z14c:=Spec.shp Zte Zyv Z5z
def Zj4:Ctx:={ tb:=mkTb T2.tbl,fx:=[],sum:=[(0,5,Yat Zpl Znm (loop Zdb))],nt:=26,pin:=0,nr:=true,ys:=[] }
theorem Z60:Sound Tryz.prog 21 (Z14c) :=
 Sound.shp (C:=Zj4) (fn:=Tryz.f21) (by kernel_rfl) (c:=bodyOf Tryz.f21) (by kernel_rfl) (by decide) (ctxOK mixed tbl_ok rfl trivial trivial) (SumOK.of ⟨(Yav (d:=.loop (loopOf 5 Tryz.f21)) (by kernel_rfl) Zdc),trivial⟩) (by kernel_rfl) Zte Zyv rfl (by decide) (by decide) rfl (by decide) rfl Z5z (fun x=>by kernel_rfl)
abbrev Zot:Shape:={ sl:=[(5,(.ptr 0 [])),(7,(.ptr 1 [])),(10,(.ptr 2 [])),(13,(.hole (.int .i64))),(14,(.hole (.slice y4))),(15,(.hole .bool)),(79,(.hole y0)),(80,(.hole (.int .i64))),(81,(.hole (.int .i64))),(92,(.hole (.slice y4))),(93,(.hole (.int .i64))),(94,(.hole (.int .i64)))],bl:=bl_25,ts:=[(.int .i64),(.slice y4),.bool,y0,(.int .i64),(.int .i64),(.slice y4),(.int .i64),(.int .i64),y4,y45,y45],pin:=0 }
abbrev Zmu:List (ETag × Shape):=[(.exit 2,{ sl:=[(5,(.ptr 0 [])),(7,(.ptr 1 [])),(10,(.ptr 2 [])),(13,(.hole (.int .i64))),(14,(.hole (.slice y4))),(15,(.hole .bool)),(79,(.hole y0)),(80,(.hole (.int .i64))),(81,(.hole (.int .i64)))],bl:=bl_25,ts:=[(.int .i64),(.slice y4),.bool,y0,(.int .i64),(.int .i64),y4,y45,y45],pin:=0 })]
def Zbr (x:(Int × List (Int × Int) × Bool × List Int × Int × Int × List (Int × Int) × Int × Int × (Int × Int) × (T47 × T61) × (T47 × T61))):Option ((Int × List (Int × Int) × Bool × List Int × Int × Int × List (Int × Int) × Int × Int × (Int × Int) × (T47 × T61) × (T47 × T61)) ⊕ (Int × List (Int × Int) × Bool × List Int × Int × Int × (Int × Int) × (T47 × T61) × (T47 × T61))) :=
 bif (decide (x.2.2.2.2.2.2.2.2.1 < x.2.2.2.2.2.2.2.1)) then
 bif (inb x.2.2.2.2.2.2.2.2.1 (List.length x.2.2.2.2.2.2.1)) then
 bif x.2.2.1 then
 some (.inl (x.1,x.2.1,true,x.2.2.2.1,x.2.2.2.2.1,x.2.2.2.2.2.1,x.2.2.2.2.2.2.1,x.2.2.2.2.2.2.2.1,(IntKind.wrap .i64 (x.2.2.2.2.2.2.2.2.1+(1:Int))),x.2.2.2.2.2.2.2.2.2.1,x.2.2.2.2.2.2.2.2.2.2.1,x.2.2.2.2.2.2.2.2.2.2.2))
 else
 some (.inl (x.1,x.2.1,(((getAt ((0:Int),(0:Int)) x.2.2.2.2.2.2.1 (toN x.2.2.2.2.2.2.2.2.1)).1 == x.2.2.2.2.2.2.2.2.2.1.1) && ((getAt ((0:Int),(0:Int)) x.2.2.2.2.2.2.1 (toN x.2.2.2.2.2.2.2.2.1)).2 == x.2.2.2.2.2.2.2.2.2.1.2)),x.2.2.2.1,x.2.2.2.2.1,x.2.2.2.2.2.1,x.2.2.2.2.2.2.1,x.2.2.2.2.2.2.2.1,(IntKind.wrap .i64 (x.2.2.2.2.2.2.2.2.1+(1:Int))),x.2.2.2.2.2.2.2.2.2.1,x.2.2.2.2.2.2.2.2.2.2.1,x.2.2.2.2.2.2.2.2.2.2.2))
 else
 none
 else
 some (.inr (x.1,x.2.1,x.2.2.1,x.2.2.2.1,x.2.2.2.2.1,x.2.2.2.2.2.1,x.2.2.2.2.2.2.2.2.2.1,x.2.2.2.2.2.2.2.2.2.2.1,x.2.2.2.2.2.2.2.2.2.2.2))
def Zh8:Ctx:={ tb:=mkTb T2.tbl,fx:=[(13,[],Z139),(14,[],Z11z),(15,[],Z13k),(16,[],Z138),(17,[],Z14d),(18,[],Z14b),(19,[],Z14a),(20,[],Z149),(22,[],Z11y),(21,[],Z14c)],sum:=[],nt:=166,pin:=0,nr:=true,ys:=[] }
theorem Zbs:CSound Tryz.prog ⟨166,0,true⟩ (.loop (loopOf 17 Tryz.f3)) (Yat Zot Zmu (loop Zbr)) :=
 Y89 (C:=Zh8) (ctxOK mixed tbl_ok rfl ⟨Z3u,Z19,Z4g,Z3s,Z62,Z5y,Z5w,Z5u,Z17,Z60,trivial⟩ trivial) (SumOK.of trivial) Zot Zmu rfl rfl Zbr (fun x=>by kernel_rfl)
abbrev Zsd:Shape:={ sl:=[(0,(.hole (.slice y4))),(1,(.hole (.int .i64)))],bl:=[],ts:=[(.slice y4),(.int .i64)],pin:=0 }
abbrev Zxu:Shape:={ sl:=[(0,(.hole y4))],bl:=[],ts:=[y4],pin:=0 }
def Z3x (x:(List (Int × Int) × Int)):Option (Int × Int) :=
 bif ((IntKind.wrap .u64 (((List.length x.1):Nat):Int)) != (0:Int)) then
 bif (inb (IntKind.wrap .i64 (Int.tmod (IntKind.wrap .u64 x.2) (IntKind.wrap .u64 (((List.length x.1):Nat):Int)))) (List.length x.1)) then
 some (getAt ((0:Int),(0:Int)) x.1 (toN (IntKind.wrap .i64 (Int.tmod (IntKind.wrap .u64 x.2) (IntKind.wrap .u64 (((List.length x.1):Nat):Int))))))
 else
 none
 else
 none
abbrev Z13b:=Spec.shp Zsd Zxu Z3x
def Zhg:Ctx:={ tb:=mkTb T2.tbl,fx:=[],sum:=[],nt:=15,pin:=0,nr:=true,ys:=[] }
theorem Z3y:Sound Tryz.prog 24 (Z13b) :=
 Sound.shp (C:=Zhg) (fn:=Tryz.f24) (by kernel_rfl) (c:=bodyOf Tryz.f24) (by kernel_rfl) (by decide) (ctxOK mixed tbl_ok rfl trivial trivial) (SumOK.of trivial) (by kernel_rfl) Zsd Zxu rfl (by decide) (by decide) rfl (by decide) rfl Z3x (fun x=>by kernel_rfl)
abbrev Ztu:Shape:={ sl:=sl_41,bl:=[],ts:=[y46,(.int .i64)],pin:=0 }
abbrev Zzb:Shape:={ sl:=sl_39,bl:=[],ts:=[y46],pin:=0 }
def Z6v (x:(T63 × Int)):Option (T63) :=
 bif (inb x.2 (List.length x.1.1.2.1)) then
 (Z7l (x.1,x.2,(IntKind.wrap .i64 ((getAt ((0:Int),(0:Int),(0:Int),false) x.1.1.2.1 (toN x.2)).2.1+(1:Int))))).bind fun r22 =>
 some r22
 else
 none
abbrev Z14s:=Spec.shp Ztu Zzb Z6v
def Zju:Ctx:={ tb:=mkTb T2.tbl,fx:=[(51,[],Z155)],sum:=[],nt:=16,pin:=0,nr:=true,ys:=[] }
theorem Z6w:Sound Tryz.prog 132 (Z14s) :=
 Sound.shp (C:=Zju) (fn:=Tryz.f132) (by kernel_rfl) (c:=bodyOf Tryz.f132) (by kernel_rfl) (by decide) (ctxOK mixed tbl_ok rfl ⟨Z7m,trivial⟩ trivial) (SumOK.of trivial) (by kernel_rfl) Ztu Zzb rfl (by decide) (by decide) rfl (by decide) rfl Z6v (fun x=>by kernel_rfl)
abbrev Zt3:Shape:={ sl:=[],bl:=[],ts:=[],pin:=0 }
abbrev Zyk:Shape:={ sl:=sl_17,bl:=[],ts:=[y5],pin:=0 }
def Z5d (x:Unit):Option (T7) :=
 some ((Int.negSucc 0),(0:Int),(0:Int))
abbrev Z141:=Spec.shp Zt3 Zyk Z5d
def Zin:Ctx:={ tb:=mkTb T2.tbl,fx:=[],sum:=[],nt:=2,pin:=0,nr:=true,ys:=[] }
theorem Z5e:Sound Tryz.prog 212 (Z141) :=
 Sound.shp (C:=Zin) (fn:=Tryz.f212) (by kernel_rfl) (c:=bodyOf Tryz.f212) (by kernel_rfl) (by decide) (ctxOK mixed tbl_ok rfl trivial trivial) (SumOK.of trivial) (by kernel_rfl) Zt3 Zyk rfl (by decide) (by decide) rfl (by decide) rfl Z5d (fun x=>by kernel_rfl)
abbrev Zpf:Shape:={ sl:=[(0,(.hole (.int .i64))),(1,(.hole (.int .i64))),(2,(.hole (.int .i64))),(6,(.ptr 0 [])),(7,(.ptr 1 [])),(8,(.hole (.int .i64)))],bl:=bl_26,ts:=[(.int .i64),(.int .i64),(.int .i64),(.int .i64),(.int .i64),(.int .i64),(.int .i64),(.int .i64),(.int .i64),(.int .i64),y0],pin:=0 }
abbrev Zng:List (ETag × Shape):=[(.exit 0,{ sl:=[(6,(.ptr 0 [])),(7,(.ptr 1 []))],bl:=bl_26,ts:=[(.int .i64),(.int .i64),(.int .i64),(.int .i64),(.int .i64),(.int .i64),y0],pin:=0 })]
def Zcz (x:(Int × Int × Int × Int × Int × Int × Int × Int × Int × Int × List Int)):Option ((Int × Int × Int × Int × Int × Int × Int × Int × Int × Int × List Int) ⊕ (Int × Int × Int × Int × Int × Int × List Int)) :=
 bif (decide (x.2.2.2.1 < x.1)) then
 bif (decide ((IntKind.wrap .i64 (x.2.1+x.2.2.2.1)) < x.2.2.1)) then
 bif (fits ((List.length x.2.2.2.2.2.2.2.2.2.2)+(List.length ((IntKind.wrap .i64 (x.2.1+x.2.2.2.1)) :: ([]:List Int))))) then
 some (.inl (x.1,x.2.1,x.2.2.1,(IntKind.wrap .i64 (x.2.2.2.1+(1:Int))),x.2.2.2.2.1,x.2.2.2.2.2.1,x.2.2.2.2.2.2.1,x.2.2.2.2.2.2.2.1,x.2.2.2.2.2.2.2.2.1,(IntKind.wrap .i64 (x.2.2.2.2.2.2.2.2.2.1+(1:Int))),(x.2.2.2.2.2.2.2.2.2.2++((IntKind.wrap .i64 (x.2.1+x.2.2.2.1)) :: ([]:List Int)))))
 else
 none
 else
 bif (fits ((List.length x.2.2.2.2.2.2.2.2.2.2)+(List.length ((0:Int) :: ([]:List Int))))) then
 some (.inl (x.1,x.2.1,x.2.2.1,(IntKind.wrap .i64 (x.2.2.2.1+(1:Int))),x.2.2.2.2.1,x.2.2.2.2.2.1,x.2.2.2.2.2.2.1,x.2.2.2.2.2.2.2.1,x.2.2.2.2.2.2.2.2.1,x.2.2.2.2.2.2.2.2.2.1,(x.2.2.2.2.2.2.2.2.2.2++((0:Int) :: ([]:List Int)))))
 else
 none
 else
 some (.inr (x.2.2.2.2.1,x.2.2.2.2.2.1,x.2.2.2.2.2.2.1,x.2.2.2.2.2.2.2.1,x.2.2.2.2.2.2.2.2.1,x.2.2.2.2.2.2.2.2.2.1,x.2.2.2.2.2.2.2.2.2.2))
def Zip:Ctx:={ tb:=mkTb T2.tbl,fx:=[],sum:=[],nt:=36,pin:=0,nr:=true,ys:=[] }
theorem Zd0:CSound Tryz.prog ⟨36,0,true⟩ (.loop (loopOf 4 Tryz.f236)) (Yat Zpf Zng (loop Zcz)) :=
 Y89 (C:=Zip) (ctxOK mixed tbl_ok rfl trivial trivial) (SumOK.of trivial) Zpf Zng rfl rfl Zcz (fun x=>by kernel_rfl)
abbrev Zt4:Shape:={ sl:=sl_0,bl:=[],ts:=ts_0,pin:=0 }
abbrev Zyl:Shape:={ sl:=[(0,(.hole y21))],bl:=[],ts:=[y21],pin:=0 }
def Z5f (x:T4):Option (T16) :=
 (loop Zcz (x.1,x.2.1,x.2.2,(0:Int),(0:Int),(0:Int),(0:Int),x.1,(0:Int),(0:Int),([]:List Int))).bind fun r30 =>
 some (r30.2.2.2.1,r30.2.2.2.2.1,r30.2.2.2.2.2.2,r30.2.2.2.2.2.1)
abbrev Z142:=Spec.shp Zt4 Zyl Z5f
def Zio:Ctx:={ tb:=mkTb T2.tbl,fx:=[],sum:=[(0,4,Yat Zpf Zng (loop Zcz))],nt:=36,pin:=0,nr:=true,ys:=[] }
theorem Z5g:Sound Tryz.prog 236 (Z142) :=
 Sound.shp (C:=Zio) (fn:=Tryz.f236) (by kernel_rfl) (c:=bodyOf Tryz.f236) (by kernel_rfl) (by decide) (ctxOK mixed tbl_ok rfl trivial trivial) (SumOK.of ⟨(Yav (d:=.loop (loopOf 4 Tryz.f236)) (by kernel_rfl) Zd0),trivial⟩) (by kernel_rfl) Zt4 Zyl rfl (by decide) (by decide) rfl (by decide) rfl Z5f (fun x=>by kernel_rfl)
abbrev Zt2:Shape:={ sl:=[(0,(.hole y40)),(1,(.hole (.int .i64))),(2,(.hole (.int .i64)))],bl:=[],ts:=[y40,(.int .i64),(.int .i64)],pin:=0 }
abbrev Zyj:Shape:={ sl:=[(0,(.hole y40))],bl:=[],ts:=[y40],pin:=0 }
def Z5b (x:((Int × T40) × Int × Int)):Option T43 :=
 (Z5f ((Max.max x.1.1 (0:Int)),(IntKind.wrap .i64 (x.1.2.2.2.2.1+x.2.2)),(IntKind.wrap .i64 (x.1.2.2.2.1+x.2.1)))).bind fun r29 =>
 some (x.1.1,x.1.2.1,r29,(IntKind.wrap .i64 (x.1.2.2.2.1+x.2.1)),(IntKind.wrap .i64 (x.1.2.2.2.2.1+x.2.2)),x.1.2.2.2.2.2)
abbrev Z140:=Spec.shp Zt2 Zyj Z5b
def Zim:Ctx:={ tb:=mkTb T2.tbl,fx:=[(236,[],Z142)],sum:=[],nt:=27,pin:=0,nr:=true,ys:=[] }
theorem Z5c:Sound Tryz.prog 213 (Z140) :=
 Sound.shp (C:=Zim) (fn:=Tryz.f213) (by kernel_rfl) (c:=bodyOf Tryz.f213) (by kernel_rfl) (by decide) (ctxOK mixed tbl_ok rfl ⟨Z5g,trivial⟩ trivial) (SumOK.of trivial) (by kernel_rfl) Zt2 Zyj rfl (by decide) (by decide) rfl (by decide) rfl Z5b (fun x=>by kernel_rfl)
abbrev Zp0:Shape:={ sl:=[(1,(.hole (.int .i64))),(5,(.sl 0)),(9,(.hole (.slice y5))),(10,(.hole (.int .i64))),(11,(.hole (.int .i64)))],bl:=[.row y5],ts:=[(.int .i64),(.slice y5),(.int .i64),(.int .i64),(.slice y5)],pin:=0 }
abbrev Zn1:List (ETag × Shape):=[(.exit 0,{ sl:=[(5,(.sl 0))],bl:=[.row y5],ts:=[(.slice y5)],pin:=0 })]
def Zc5 (x:(Int × List (T7) × Int × Int × List (T7))):Option ((Int × List (T7) × Int × Int × List (T7)) ⊕ (List (T7))) :=
 bif (decide (x.2.2.2.1 < x.2.2.1)) then
 bif (inb x.2.2.2.1 (List.length x.2.1)) then
 bif ((getAt ((0:Int),(0:Int),(0:Int)) x.2.1 (toN x.2.2.2.1)).1 != x.1) then
 bif (fits ((List.length x.2.2.2.2)+(List.length ((getAt ((0:Int),(0:Int),(0:Int)) x.2.1 (toN x.2.2.2.1)) :: ([]:List T7))))) then
 some (.inl (x.1,x.2.1,x.2.2.1,(IntKind.wrap .i64 (x.2.2.2.1+(1:Int))),(x.2.2.2.2++((getAt ((0:Int),(0:Int),(0:Int)) x.2.1 (toN x.2.2.2.1)) :: ([]:List T7)))))
 else
 none
 else
 some (.inl (x.1,x.2.1,x.2.2.1,(IntKind.wrap .i64 (x.2.2.2.1+(1:Int))),x.2.2.2.2))
 else
 none
 else
 some (.inr x.2.2.2.2)
def Zhn:Ctx:={ tb:=mkTb T2.tbl,fx:=[],sum:=[],nt:=25,pin:=0,nr:=true,ys:=[] }
theorem Zc6:CSound Tryz.prog ⟨25,0,true⟩ (.loop (loopOf 4 Tryz.f179)) (Yat Zp0 Zn1 (loop Zc5)) :=
 Y89 (C:=Zhn) (ctxOK mixed tbl_ok rfl trivial trivial) (SumOK.of trivial) Zp0 Zn1 rfl rfl Zc5 (fun x=>by kernel_rfl)
abbrev Zsh:Shape:={ sl:=sl_23,bl:=[],ts:=ts_12,pin:=0 }
abbrev Zxy:Shape:={ sl:=sl_18,bl:=[],ts:=[(.slice y5)],pin:=0 }
def Z45 (x:T15):Option (List (T7)) :=
 (loop Zc5 (x.2,x.1,(((List.length x.1):Nat):Int),(0:Int),([]:List T7))).bind fun r30 =>
 some r30
abbrev Z13f:=Spec.shp Zsh Zxy Z45
def Zhm:Ctx:={ tb:=mkTb T2.tbl,fx:=[],sum:=[(0,4,Yat Zp0 Zn1 (loop Zc5))],nt:=25,pin:=0,nr:=true,ys:=[] }
theorem Z46:Sound Tryz.prog 179 (Z13f) :=
 Sound.shp (C:=Zhm) (fn:=Tryz.f179) (by kernel_rfl) (c:=bodyOf Tryz.f179) (by kernel_rfl) (by decide) (ctxOK mixed tbl_ok rfl trivial trivial) (SumOK.of ⟨(Yav (d:=.loop (loopOf 4 Tryz.f179)) (by kernel_rfl) Zc6),trivial⟩) (by kernel_rfl) Zsh Zxy rfl (by decide) (by decide) rfl (by decide) rfl Z45 (fun x=>by kernel_rfl)
abbrev Zsv:Shape:={ sl:=sl_13,bl:=[],ts:=[y40,(.int .i64)],pin:=0 }
abbrev Zyc:Shape:={ sl:=[(0,(.hole y40))],bl:=[],ts:=[y40],pin:=0 }
def Z4x (x:T46):Option T43 :=
 (Z45 (x.1.2.2.2.2.2.1,x.2)).bind fun r29 =>
 (Z45 (x.1.2.2.2.2.2.2,x.2)).bind fun r30 =>
 some (x.1.1,x.1.2.1,x.1.2.2.1,x.1.2.2.2.1,x.1.2.2.2.2.1,r29,r30)
abbrev Z13t:=Spec.shp Zsv Zyc Z4x
def Zie:Ctx:={ tb:=mkTb T2.tbl,fx:=[(179,[],Z13f)],sum:=[],nt:=16,pin:=0,nr:=true,ys:=[] }
theorem Z4y:Sound Tryz.prog 214 (Z13t) :=
 Sound.shp (C:=Zie) (fn:=Tryz.f214) (by kernel_rfl) (c:=bodyOf Tryz.f214) (by kernel_rfl) (by decide) (ctxOK mixed tbl_ok rfl ⟨Z46,trivial⟩ trivial) (SumOK.of trivial) (by kernel_rfl) Zsv Zyc rfl (by decide) (by decide) rfl (by decide) rfl Z4x (fun x=>by kernel_rfl)
abbrev Zp2:Shape:={ sl:=[(1,(.hole (.int .i64))),(2,(.hole (.int .i64))),(9,(.hole (.slice y5))),(10,(.hole (.int .i64))),(11,(.hole (.int .i64)))],bl:=[],ts:=[(.int .i64),(.int .i64),(.slice y5),(.int .i64),(.int .i64)],pin:=0 }
abbrev Zn3:List (ETag × Shape):=[(.ret,{ sl:=[(6,(.hole .bool))],bl:=[],ts:=ts_1,pin:=0 }),(.exit 0,{ sl:=[],bl:=[],ts:=[],pin:=0 })]
def Zc9 (x:(Int × Int × List (T7) × Int × Int)):Option ((Int × Int × List (T7) × Int × Int) ⊕ ((Bool) ⊕ Unit)) :=
 bif (decide (x.2.2.2.2 < x.2.2.2.1)) then
 bif (inb x.2.2.2.2 (List.length x.2.2.1)) then
 bif ((getAt ((0:Int),(0:Int),(0:Int)) x.2.2.1 (toN x.2.2.2.2)).1 == x.1) then
 bif ((getAt ((0:Int),(0:Int),(0:Int)) x.2.2.1 (toN x.2.2.2.2)).2.1 == x.2.1) then
 some (.inr (.inl true))
 else
 some (.inl (x.1,x.2.1,x.2.2.1,x.2.2.2.1,(IntKind.wrap .i64 (x.2.2.2.2+(1:Int)))))
 else
 some (.inl (x.1,x.2.1,x.2.2.1,x.2.2.2.1,(IntKind.wrap .i64 (x.2.2.2.2+(1:Int)))))
 else
 none
 else
 some (.inr (.inr ()))
def Zhr:Ctx:={ tb:=mkTb T2.tbl,fx:=[],sum:=[],nt:=26,pin:=0,nr:=true,ys:=[] }
theorem Zca:CSound Tryz.prog ⟨26,0,true⟩ (.loop (loopOf 3 Tryz.f237)) (Yat Zp2 Zn3 (loop Zc9)) :=
 Y89 (C:=Zhr) (ctxOK mixed tbl_ok rfl trivial trivial) (SumOK.of trivial) Zp2 Zn3 rfl rfl Zc9 (fun x=>by kernel_rfl)
abbrev Zsj:Shape:={ sl:=[(0,(.hole (.slice y5))),(1,(.hole (.int .i64))),(2,(.hole (.int .i64)))],bl:=[],ts:=[(.slice y5),(.int .i64),(.int .i64)],pin:=0 }
abbrev Zy0:Shape:={ sl:=sl_1,bl:=[],ts:=ts_1,pin:=0 }
def Z49 (x:(List (T7) × Int × Int)):Option (Bool) :=
 (loop Zc9 (x.2.1,x.2.2,x.1,(((List.length x.1):Nat):Int),(0:Int))).bind fun r30 =>
 match r30 with
 | .inl y31 =>
 some y31
 | .inr y31 =>
 some false
abbrev Z13h:=Spec.shp Zsj Zy0 Z49
def Zhq:Ctx:={ tb:=mkTb T2.tbl,fx:=[],sum:=[(0,3,Yat Zp2 Zn3 (loop Zc9))],nt:=26,pin:=0,nr:=true,ys:=[] }
theorem Z4a:Sound Tryz.prog 237 (Z13h) :=
 Sound.shp (C:=Zhq) (fn:=Tryz.f237) (by kernel_rfl) (c:=bodyOf Tryz.f237) (by kernel_rfl) (by decide) (ctxOK mixed tbl_ok rfl trivial trivial) (SumOK.of ⟨(Yav (d:=.loop (loopOf 3 Tryz.f237)) (by kernel_rfl) Zca),trivial⟩) (by kernel_rfl) Zsj Zy0 rfl (by decide) (by decide) rfl (by decide) rfl Z49 (fun x=>by kernel_rfl)
abbrev Zsx:Shape:={ sl:=[(0,(.hole (.slice y5))),(1,(.hole y5))],bl:=[],ts:=[(.slice y5),y5],pin:=0 }
abbrev Zye:Shape:={ sl:=sl_23,bl:=[],ts:=ts_12,pin:=0 }
def Z51 (x:(List (T7) × T7)):Option T15 :=
 (Z49 (x.1,x.2.1,x.2.2.1)).bind fun r29 =>
 bif r29 then
 some (([]:List T7),(7:Int))
 else
 bif ((((List.length x.1):Nat):Int) == (64:Int)) then
 some (([]:List T7),(5:Int))
 else
 bif (fits ((List.length ([]:List T7))+(List.length x.1))) then
 bif (fits ((List.length (([]:List T7)++x.1))+(List.length (x.2 :: ([]:List T7))))) then
 some (((([]:List T7)++x.1)++(x.2 :: ([]:List T7))),(0:Int))
 else
 none
 else
 none
abbrev Z13v:=Spec.shp Zsx Zye Z51
def Zih:Ctx:={ tb:=mkTb T2.tbl,fx:=[(237,[],Z13h)],sum:=[],nt:=24,pin:=0,nr:=true,ys:=[] }
theorem Z52:Sound Tryz.prog 215 (Z13v) :=
 Sound.shp (C:=Zih) (fn:=Tryz.f215) (by kernel_rfl) (c:=bodyOf Tryz.f215) (by kernel_rfl) (by decide) (ctxOK mixed tbl_ok rfl ⟨Z4a,trivial⟩ trivial) (SumOK.of trivial) (by kernel_rfl) Zsx Zye rfl (by decide) (by decide) rfl (by decide) rfl Z51 (fun x=>by kernel_rfl)
abbrev Zsz:Shape:={ sl:=sl_27,bl:=[],ts:=[y40,y5],pin:=0 }
abbrev Zyg:Shape:={ sl:=sl_28,bl:=[],ts:=[y40,y30,(.int .i64)],pin:=0 }
def Z55 (x:T45):Option T48 :=
 (Z5d ()).bind fun r26 =>
 bif (x.1.1 == (Int.negSucc 0)) then
 some (x.1,((0:Int),(0:Int),r26,(0:Int)),(0:Int))
 else
 (Z47 (x.1.2.2.2.2.2.1,x.2.1)).bind fun r27 =>
 bif (decide (r27 ≥ (0:Int))) then
 bif (x.1.2.2.2.1 == (1048576:Int)) then
 some (((0:Int),false,((0:Int),(0:Int),([]:List Int),(0:Int)),(0:Int),(0:Int),([]:List T7),([]:List T7)),((0:Int),(0:Int),((0:Int),(0:Int),(0:Int)),(0:Int)),(5:Int))
 else
 bif (decide (x.1.2.2.1.2.2.2 > (0:Int))) then
 bif (decide (r27 < (0:Int))) then
 (Z5b (x.1,(0:Int),(1:Int))).bind fun r28 =>
 some (r28,((1:Int),x.1.2.2.2.2.1,r26,(0:Int)),(0:Int))
 else
 bif (inb r27 (List.length x.1.2.2.2.2.2.1)) then
 (Z4x (x.1,(getAt ((0:Int),(0:Int),(0:Int)) x.1.2.2.2.2.2.1 (toN r27)).1)).bind fun r28 =>
 (Z5b (r28,(1:Int),(1:Int))).bind fun r29 =>
 some (r29,((1:Int),x.1.2.2.2.2.1,(getAt ((0:Int),(0:Int),(0:Int)) x.1.2.2.2.2.2.1 (toN r27)),x.1.2.2.2.1),(0:Int))
 else
 none
 else
 bif (decide (r27 ≥ (0:Int))) then
 bif (decide (r27 < (0:Int))) then
 (Z5b (x.1,(0:Int),(1:Int))).bind fun r28 =>
 some (r28,((1:Int),x.1.2.2.2.2.1,r26,(0:Int)),(0:Int))
 else
 bif (inb r27 (List.length x.1.2.2.2.2.2.1)) then
 (Z4x (x.1,(getAt ((0:Int),(0:Int),(0:Int)) x.1.2.2.2.2.2.1 (toN r27)).1)).bind fun r28 =>
 (Z5b (r28,(1:Int),(1:Int))).bind fun r29 =>
 some (r29,((1:Int),x.1.2.2.2.2.1,(getAt ((0:Int),(0:Int),(0:Int)) x.1.2.2.2.2.2.1 (toN r27)),x.1.2.2.2.1),(0:Int))
 else
 none
 else
 bif x.1.2.1 then
 some (x.1,((2:Int),(0:Int),r26,(0:Int)),(0:Int))
 else
 (Z51 (x.1.2.2.2.2.2.2,x.2)).bind fun r28 =>
 bif (r28.2 != (0:Int)) then
 some (((0:Int),false,((0:Int),(0:Int),([]:List Int),(0:Int)),(0:Int),(0:Int),([]:List T7),([]:List T7)),((0:Int),(0:Int),((0:Int),(0:Int),(0:Int)),(0:Int)),r28.2)
 else
 some ((x.1.1,x.1.2.1,x.1.2.2.1,x.1.2.2.2.1,x.1.2.2.2.2.1,x.1.2.2.2.2.2.1,r28.1),((0:Int),(0:Int),r26,(0:Int)),(0:Int))
 else
 bif (decide (x.1.2.2.1.2.2.2 > (0:Int))) then
 bif (decide (r27 < (0:Int))) then
 (Z5b (x.1,(0:Int),(1:Int))).bind fun r28 =>
 some (r28,((1:Int),x.1.2.2.2.2.1,r26,(0:Int)),(0:Int))
 else
 bif (inb r27 (List.length x.1.2.2.2.2.2.1)) then
 (Z4x (x.1,(getAt ((0:Int),(0:Int),(0:Int)) x.1.2.2.2.2.2.1 (toN r27)).1)).bind fun r28 =>
 (Z5b (r28,(1:Int),(1:Int))).bind fun r29 =>
 some (r29,((1:Int),x.1.2.2.2.2.1,(getAt ((0:Int),(0:Int),(0:Int)) x.1.2.2.2.2.2.1 (toN r27)),x.1.2.2.2.1),(0:Int))
 else
 none
 else
 bif (decide (r27 ≥ (0:Int))) then
 bif (decide (r27 < (0:Int))) then
 (Z5b (x.1,(0:Int),(1:Int))).bind fun r28 =>
 some (r28,((1:Int),x.1.2.2.2.2.1,r26,(0:Int)),(0:Int))
 else
 bif (inb r27 (List.length x.1.2.2.2.2.2.1)) then
 (Z4x (x.1,(getAt ((0:Int),(0:Int),(0:Int)) x.1.2.2.2.2.2.1 (toN r27)).1)).bind fun r28 =>
 (Z5b (r28,(1:Int),(1:Int))).bind fun r29 =>
 some (r29,((1:Int),x.1.2.2.2.2.1,(getAt ((0:Int),(0:Int),(0:Int)) x.1.2.2.2.2.2.1 (toN r27)),x.1.2.2.2.1),(0:Int))
 else
 none
 else
 bif x.1.2.1 then
 some (x.1,((2:Int),(0:Int),r26,(0:Int)),(0:Int))
 else
 (Z51 (x.1.2.2.2.2.2.2,x.2)).bind fun r28 =>
 bif (r28.2 != (0:Int)) then
 some (((0:Int),false,((0:Int),(0:Int),([]:List Int),(0:Int)),(0:Int),(0:Int),([]:List T7),([]:List T7)),((0:Int),(0:Int),((0:Int),(0:Int),(0:Int)),(0:Int)),r28.2)
 else
 some ((x.1.1,x.1.2.1,x.1.2.2.1,x.1.2.2.2.1,x.1.2.2.2.2.1,x.1.2.2.2.2.2.1,r28.1),((0:Int),(0:Int),r26,(0:Int)),(0:Int))
abbrev Z13x:=Spec.shp Zsz Zyg Z55
def Zij:Ctx:={ tb:=mkTb T2.tbl,fx:=[(212,[],Z141),(159,[],Z13g),(213,[],Z140),(214,[],Z13t),(215,[],Z13v)],sum:=[],nt:=86,pin:=0,nr:=true,ys:=[] }
theorem Z56:Sound Tryz.prog 181 (Z13x) :=
 Sound.shp (C:=Zij) (fn:=Tryz.f181) (by kernel_rfl) (c:=bodyOf Tryz.f181) (by kernel_rfl) (by decide) (ctxOK mixed tbl_ok rfl ⟨Z5e,Z48,Z5c,Z4y,Z52,trivial⟩ trivial) (SumOK.of trivial) (by kernel_rfl) Zsz Zyg rfl (by decide) (by decide) rfl (by decide) rfl Z55 (fun x=>by kernel_rfl)
abbrev Zu1:Shape:={ sl:=[(0,(.hole y45)),(1,(.hole (.int .i64))),(2,(.hole (.int .i64)))],bl:=[],ts:=[y45,(.int .i64),(.int .i64)],pin:=0 }
abbrev Zzi:Shape:={ sl:=sl_1,bl:=[],ts:=ts_1,pin:=0 }
def Z79 (x:((T47 × T61) × Int × Int)):Option (Bool) :=
 (Z6n (x.1,x.2.1)).bind fun r27 =>
 bif (r27.1 == (4:Int)) then
 bif (inb r27.2.1 (List.length x.1.1.2.2.2.2.1)) then
 bif (inb x.2.2 (List.length (getAt (([]:List T0),false) x.1.1.2.2.2.2.1 (toN r27.2.1)).1)) then
 some (getAt (false,(0:Int)) (getAt (([]:List T0),false) x.1.1.2.2.2.2.1 (toN r27.2.1)).1 (toN x.2.2)).1
 else
 none
 else
 none
 else
 some (r27.1 == (1:Int))
abbrev Z14z:=Spec.shp Zu1 Zzi Z79
def Zk4:Ctx:={ tb:=mkTb T2.tbl,fx:=[(55,[],Z14o)],sum:=[],nt:=29,pin:=0,nr:=true,ys:=[] }
theorem Z7a:Sound Tryz.prog 210 (Z14z) :=
 Sound.shp (C:=Zk4) (fn:=Tryz.f210) (by kernel_rfl) (c:=bodyOf Tryz.f210) (by kernel_rfl) (by decide) (ctxOK mixed tbl_ok rfl ⟨Z6o,trivial⟩ trivial) (SumOK.of trivial) (by kernel_rfl) Zu1 Zzi rfl (by decide) (by decide) rfl (by decide) rfl Z79 (fun x=>by kernel_rfl)
abbrev Zt1:Shape:={ sl:=sl_27,bl:=[],ts:=[y40,y5],pin:=0 }
abbrev Zyi:Shape:={ sl:=sl_28,bl:=[],ts:=[y40,y30,(.int .i64)],pin:=0 }
def Z59 (x:T45):Option T48 :=
 (Z5d ()).bind fun r28 =>
 bif (x.1.1 == (Int.negSucc 0)) then
 some (x.1,((0:Int),(0:Int),r28,(0:Int)),(0:Int))
 else
 bif x.1.2.1 then
 some (x.1,((3:Int),(0:Int),r28,(0:Int)),(0:Int))
 else
 (Z47 (x.1.2.2.2.2.2.2,x.2.1)).bind fun r29 =>
 bif (decide (r29 ≥ (0:Int))) then
 bif (x.1.2.2.2.1 == (1048576:Int)) then
 some (((0:Int),false,((0:Int),(0:Int),([]:List Int),(0:Int)),(0:Int),(0:Int),([]:List T7),([]:List T7)),((0:Int),(0:Int),((0:Int),(0:Int),(0:Int)),(0:Int)),(5:Int))
 else
 bif (decide (r29 < (0:Int))) then
 (Z5b (x.1,(1:Int),(0:Int))).bind fun r30 =>
 some (r30,((1:Int),x.1.2.2.2.1,r28,(0:Int)),(0:Int))
 else
 bif (inb r29 (List.length x.1.2.2.2.2.2.2)) then
 (Z4x (x.1,(getAt ((0:Int),(0:Int),(0:Int)) x.1.2.2.2.2.2.2 (toN r29)).1)).bind fun r30 =>
 (Z5b (r30,(1:Int),(1:Int))).bind fun r31 =>
 some (r31,((1:Int),x.1.2.2.2.1,(getAt ((0:Int),(0:Int),(0:Int)) x.1.2.2.2.2.2.2 (toN r29)),x.1.2.2.2.1),(0:Int))
 else
 none
 else
 bif (decide (x.1.2.2.1.2.2.2 < x.1.1)) then
 bif (x.1.2.2.2.1 == (1048576:Int)) then
 some (((0:Int),false,((0:Int),(0:Int),([]:List Int),(0:Int)),(0:Int),(0:Int),([]:List T7),([]:List T7)),((0:Int),(0:Int),((0:Int),(0:Int),(0:Int)),(0:Int)),(5:Int))
 else
 bif (decide (r29 < (0:Int))) then
 (Z5b (x.1,(1:Int),(0:Int))).bind fun r30 =>
 some (r30,((1:Int),x.1.2.2.2.1,r28,(0:Int)),(0:Int))
 else
 bif (inb r29 (List.length x.1.2.2.2.2.2.2)) then
 (Z4x (x.1,(getAt ((0:Int),(0:Int),(0:Int)) x.1.2.2.2.2.2.2 (toN r29)).1)).bind fun r30 =>
 (Z5b (r30,(1:Int),(1:Int))).bind fun r31 =>
 some (r31,((1:Int),x.1.2.2.2.1,(getAt ((0:Int),(0:Int),(0:Int)) x.1.2.2.2.2.2.2 (toN r29)),x.1.2.2.2.1),(0:Int))
 else
 none
 else
 (Z51 (x.1.2.2.2.2.2.1,x.2)).bind fun r30 =>
 bif (r30.2 != (0:Int)) then
 some (((0:Int),false,((0:Int),(0:Int),([]:List Int),(0:Int)),(0:Int),(0:Int),([]:List T7),([]:List T7)),((0:Int),(0:Int),((0:Int),(0:Int),(0:Int)),(0:Int)),r30.2)
 else
 some ((x.1.1,x.1.2.1,x.1.2.2.1,x.1.2.2.2.1,x.1.2.2.2.2.1,r30.1,x.1.2.2.2.2.2.2),((0:Int),(0:Int),r28,(0:Int)),(0:Int))
abbrev Z13z:=Spec.shp Zt1 Zyi Z59
def Zil:Ctx:={ tb:=mkTb T2.tbl,fx:=[(212,[],Z141),(159,[],Z13g),(213,[],Z140),(214,[],Z13t),(215,[],Z13v)],sum:=[],nt:=84,pin:=0,nr:=true,ys:=[] }
theorem Z5a:Sound Tryz.prog 182 (Z13z) :=
 Sound.shp (C:=Zil) (fn:=Tryz.f182) (by kernel_rfl) (c:=bodyOf Tryz.f182) (by kernel_rfl) (by decide) (ctxOK mixed tbl_ok rfl ⟨Z5e,Z48,Z5c,Z4y,Z52,trivial⟩ trivial) (SumOK.of trivial) (by kernel_rfl) Zt1 Zyi rfl (by decide) (by decide) rfl (by decide) rfl Z59 (fun x=>by kernel_rfl)
abbrev Zpp:Shape:={ sl:=[(1,(.hole (.int .i64))),(3,(.ptr 0 [])),(5,(.ptr 1 [])),(6,(.ptr 2 [])),(7,(.sl 3)),(13,(.hole y41)),(14,(.hole (.int .i64))),(15,(.hole (.int .i64)))],bl:=[.var (.hole y46),.var (.hole y40),.var (.pr (.pr (.pr .nl (.pr (.hole (.int .i64)) (.pr (.hole (.int .i64)) (.pr (.hole (.int .i64)) (.pr .nl .nl))))) (.pr .nl (.pr .nl (.pr .nl (.pr .nl (.hole y4)))))) .nl),.row y40],ts:=[(.int .i64),y41,(.int .i64),(.int .i64),y46,y40,(.int .i64),(.int .i64),(.int .i64),y4,y41],pin:=0 }
abbrev Znq:List (ETag × Shape):=[(.exit 0,{ sl:=sl_40,bl:=bl_27,ts:=[y46,(.int .i64),(.int .i64),(.int .i64),y4,y41],pin:=0 })]
def Zdj (x:(Int × List T43 × Int × Int × T63 × (Int × T40) × Int × Int × Int × (Int × Int) × List T43)):Option ((Int × List T43 × Int × Int × T63 × (Int × T40) × Int × Int × Int × (Int × Int) × List T43) ⊕ (T63 × Int × Int × Int × (Int × Int) × List T43)) :=
 bif (decide (x.2.2.2.1 < x.2.2.1)) then
 bif (inb x.2.2.2.1 (List.length x.2.1)) then
 bif (x.2.2.2.1 == x.1) then
 bif (fits ((List.length x.2.2.2.2.2.2.2.2.2.2)+(List.length (x.2.2.2.2.2.1 :: ([]:List (Int × T41)))))) then
 some (.inl (x.1,x.2.1,x.2.2.1,(IntKind.wrap .i64 (x.2.2.2.1+(1:Int))),x.2.2.2.2.1,x.2.2.2.2.2.1,x.2.2.2.2.2.2.1,x.2.2.2.2.2.2.2.1,x.2.2.2.2.2.2.2.2.1,x.2.2.2.2.2.2.2.2.2.1,(x.2.2.2.2.2.2.2.2.2.2++(x.2.2.2.2.2.1 :: ([]:List (Int × T41))))))
 else
 none
 else
 bif (fits ((List.length x.2.2.2.2.2.2.2.2.2.2)+(List.length ((getAt ((0:Int),false,((0:Int),(0:Int),([]:List Int),(0:Int)),(0:Int),(0:Int),([]:List T7),([]:List T7)) x.2.1 (toN x.2.2.2.1)) :: ([]:List (Int × T41)))))) then
 some (.inl (x.1,x.2.1,x.2.2.1,(IntKind.wrap .i64 (x.2.2.2.1+(1:Int))),x.2.2.2.2.1,x.2.2.2.2.2.1,x.2.2.2.2.2.2.1,x.2.2.2.2.2.2.2.1,x.2.2.2.2.2.2.2.2.1,x.2.2.2.2.2.2.2.2.2.1,(x.2.2.2.2.2.2.2.2.2.2++((getAt ((0:Int),false,((0:Int),(0:Int),([]:List Int),(0:Int)),(0:Int),(0:Int),([]:List T7),([]:List T7)) x.2.1 (toN x.2.2.2.1)) :: ([]:List (Int × T41))))))
 else
 none
 else
 none
 else
 some (.inr (x.2.2.2.2.1,x.2.2.2.2.2.2.1,x.2.2.2.2.2.2.2.1,x.2.2.2.2.2.2.2.2.1,x.2.2.2.2.2.2.2.2.2.1,x.2.2.2.2.2.2.2.2.2.2))
def Zje:Ctx:={ tb:=mkTb T2.tbl,fx:=[],sum:=[],nt:=33,pin:=0,nr:=true,ys:=[] }
theorem Zdk:CSound Tryz.prog ⟨33,0,true⟩ (.loop (loopOf 4 Tryz.f178)) (Yat Zpp Znq (loop Zdj)) :=
 Y89 (C:=Zje) (ctxOK mixed tbl_ok rfl trivial trivial) (SumOK.of trivial) Zpp Znq rfl rfl Zdj (fun x=>by kernel_rfl)
abbrev Ztj:Shape:={ sl:=[(0,(.hole y46)),(1,(.hole (.int .i64))),(2,(.hole y40))],bl:=[],ts:=[y46,(.int .i64),y40],pin:=0 }
abbrev Zz0:Shape:={ sl:=sl_39,bl:=[],ts:=[y46],pin:=0 }
def Z69 (x:(T63 × Int × (Int × T40))):Option (T63) :=
 (loop Zdj (x.2.1,x.1.1.2.2.1,(((List.length x.1.1.2.2.1):Nat):Int),(0:Int),x.1,x.2.2,(0:Int),(0:Int),(0:Int),((0:Int),(0:Int)),([]:List (Int × T41)))).bind fun r29 =>
 some ((r29.1.1.1,r29.1.1.2.1,r29.2.2.2.2.2,r29.1.1.2.2.2),r29.1.2)
abbrev Z14h:=Spec.shp Ztj Zz0 Z69
def Zjd:Ctx:={ tb:=mkTb T2.tbl,fx:=[],sum:=[(0,4,Yat Zpp Znq (loop Zdj))],nt:=33,pin:=0,nr:=true,ys:=[] }
theorem Z6a:Sound Tryz.prog 178 (Z14h) :=
 Sound.shp (C:=Zjd) (fn:=Tryz.f178) (by kernel_rfl) (c:=bodyOf Tryz.f178) (by kernel_rfl) (by decide) (ctxOK mixed tbl_ok rfl trivial trivial) (SumOK.of ⟨(Yav (d:=.loop (loopOf 4 Tryz.f178)) (by kernel_rfl) Zdk),trivial⟩) (by kernel_rfl) Ztj Zz0 rfl (by decide) (by decide) rfl (by decide) rfl Z69 (fun x=>by kernel_rfl)
abbrev Zu8:Shape:={ sl:=sl_41,bl:=[],ts:=[y46,(.int .i64)],pin:=0 }
abbrev Zzp:Shape:={ sl:=sl_39,bl:=[],ts:=[y46],pin:=0 }
def Z7n (x:(T63 × Int)):Option (T63) :=
 bif (inb x.2 (List.length x.1.1.2.1)) then
 (Z6j (x.1,x.2,(getAt ((0:Int),(0:Int),(0:Int),false) x.1.1.2.1 (toN x.2)).1,(getAt ((0:Int),(0:Int),(0:Int),false) x.1.1.2.1 (toN x.2)).2.1,(1:Int),(getAt ((0:Int),(0:Int),(0:Int),false) x.1.1.2.1 (toN x.2)).2.2.2)).bind fun r30 =>
 some r30
 else
 none
abbrev Z156:=Spec.shp Zu8 Zzp Z7n
def Zkd:Ctx:={ tb:=mkTb T2.tbl,fx:=[(105,[],Z14m)],sum:=[],nt:=17,pin:=0,nr:=true,ys:=[] }
theorem Z7o:Sound Tryz.prog 183 (Z156) :=
 Sound.shp (C:=Zkd) (fn:=Tryz.f183) (by kernel_rfl) (c:=bodyOf Tryz.f183) (by kernel_rfl) (by decide) (ctxOK mixed tbl_ok rfl ⟨Z6k,trivial⟩ trivial) (SumOK.of trivial) (by kernel_rfl) Zu8 Zzp rfl (by decide) (by decide) rfl (by decide) rfl Z7n (fun x=>by kernel_rfl)
abbrev Zpt:Shape:={ sl:=[(1,(.hole (.int .i64))),(2,(.ptr 0 [])),(4,(.ptr 1 [])),(5,(.sl 2)),(11,(.hole y41)),(12,(.hole (.int .i64))),(13,(.hole (.int .i64)))],bl:=bl_27,ts:=[(.int .i64),y41,(.int .i64),(.int .i64),y46,(.int .i64),(.int .i64),(.int .i64),y4,y41],pin:=0 }
abbrev Znu:List (ETag × Shape):=[(.exit 0,{ sl:=[(2,(.ptr 0 [])),(4,(.ptr 1 [])),(5,(.sl 2))],bl:=bl_27,ts:=[y46,(.int .i64),(.int .i64),(.int .i64),y4,y41],pin:=0 })]
def Zdr (x:(Int × List T43 × Int × Int × T63 × Int × Int × Int × (Int × Int) × List T43)):Option ((Int × List T43 × Int × Int × T63 × Int × Int × Int × (Int × Int) × List T43) ⊕ (T63 × Int × Int × Int × (Int × Int) × List T43)) :=
 bif (decide (x.2.2.2.1 < x.2.2.1)) then
 bif (inb x.2.2.2.1 (List.length x.2.1)) then
 (Z4x ((getAt ((0:Int),false,((0:Int),(0:Int),([]:List Int),(0:Int)),(0:Int),(0:Int),([]:List T7),([]:List T7)) x.2.1 (toN x.2.2.2.1)),x.1)).bind fun r36 =>
 bif (fits ((List.length x.2.2.2.2.2.2.2.2.2)+(List.length (r36 :: ([]:List (Int × T41)))))) then
 some (.inl (x.1,x.2.1,x.2.2.1,(IntKind.wrap .i64 (x.2.2.2.1+(1:Int))),x.2.2.2.2.1,x.2.2.2.2.2.1,x.2.2.2.2.2.2.1,x.2.2.2.2.2.2.2.1,x.2.2.2.2.2.2.2.2.1,(x.2.2.2.2.2.2.2.2.2++(r36 :: ([]:List (Int × T41))))))
 else
 none
 else
 none
 else
 some (.inr (x.2.2.2.2.1,x.2.2.2.2.2.1,x.2.2.2.2.2.2.1,x.2.2.2.2.2.2.2.1,x.2.2.2.2.2.2.2.2.1,x.2.2.2.2.2.2.2.2.2))
def Zjr:Ctx:={ tb:=mkTb T2.tbl,fx:=[(214,[],Z13t)],sum:=[],nt:=28,pin:=0,nr:=true,ys:=[] }
theorem Zds:CSound Tryz.prog ⟨28,0,true⟩ (.loop (loopOf 4 Tryz.f211)) (Yat Zpt Znu (loop Zdr)) :=
 Y89 (C:=Zjr) (ctxOK mixed tbl_ok rfl ⟨Z4y,trivial⟩ trivial) (SumOK.of trivial) Zpt Znu rfl rfl Zdr (fun x=>by kernel_rfl)
abbrev Zts:Shape:={ sl:=sl_41,bl:=[],ts:=[y46,(.int .i64)],pin:=0 }
abbrev Zz9:Shape:={ sl:=sl_39,bl:=[],ts:=[y46],pin:=0 }
def Z6r (x:(T63 × Int)):Option (T63) :=
 (loop Zdr (x.2,x.1.1.2.2.1,(((List.length x.1.1.2.2.1):Nat):Int),(0:Int),x.1,(0:Int),(0:Int),(0:Int),((0:Int),(0:Int)),([]:List (Int × T41)))).bind fun r35 =>
 some ((r35.1.1.1,r35.1.1.2.1,r35.2.2.2.2.2,r35.1.1.2.2.2),r35.1.2)
abbrev Z14q:=Spec.shp Zts Zz9 Z6r
def Zjq:Ctx:={ tb:=mkTb T2.tbl,fx:=[(214,[],Z13t)],sum:=[(0,4,Yat Zpt Znu (loop Zdr))],nt:=28,pin:=0,nr:=true,ys:=[] }
theorem Z6s:Sound Tryz.prog 211 (Z14q) :=
 Sound.shp (C:=Zjq) (fn:=Tryz.f211) (by kernel_rfl) (c:=bodyOf Tryz.f211) (by kernel_rfl) (by decide) (ctxOK mixed tbl_ok rfl ⟨Z4y,trivial⟩ trivial) (SumOK.of ⟨(Yav (d:=.loop (loopOf 4 Tryz.f211)) (by kernel_rfl) Zds),trivial⟩) (by kernel_rfl) Zts Zz9 rfl (by decide) (by decide) rfl (by decide) rfl Z6r (fun x=>by kernel_rfl)
abbrev Ztl:Shape:={ sl:=[(0,(.hole y46)),(1,(.hole (.int .i64))),(2,(.hole y5)),(3,(.hole (.int .i64))),(4,(.hole .bool))],bl:=[],ts:=[y46,(.int .i64),y5,(.int .i64),.bool],pin:=0 }
abbrev Zz2:Shape:={ sl:=sl_39,bl:=[],ts:=[y46],pin:=0 }
def Z6d (x:(T63 × Int × T7 × Int × Bool)):Option (T63) :=
 (Z79 (x.1.1,x.2.2.1.1,x.2.2.1.2.1)).bind fun r30 =>
 bif r30 then
 bif x.2.2.2.2 then
 (Z7j (x.1,x.2.2.1.1,(6:Int),x.2.1,x.2.2.2.1,x.2.2.1.2.2)).bind fun r31 =>
 bif (inb x.2.2.1.1 (List.length r31.1.2.1)) then
 (Z6j (r31,x.2.2.1.1,(getAt ((0:Int),(0:Int),(0:Int),false) r31.1.2.1 (toN x.2.2.1.1)).1,(getAt ((0:Int),(0:Int),(0:Int),false) r31.1.2.1 (toN x.2.2.1.1)).2.1,(getAt ((0:Int),(0:Int),(0:Int),false) r31.1.2.1 (toN x.2.2.1.1)).2.2.1,x.2.2.2.2)).bind fun r32 =>
 (Z6v (r32,x.2.2.1.1)).bind fun r33 =>
 (Z6r (r33,x.2.2.1.1)).bind fun r34 =>
 some r34
 else
 none
 else
 (Z7j (x.1,x.2.2.1.1,(3:Int),x.2.1,x.2.2.2.1,x.2.2.1.2.2)).bind fun r31 =>
 (Z6v (r31,x.2.2.1.1)).bind fun r32 =>
 (Z6r (r32,x.2.2.1.1)).bind fun r33 =>
 some r33
 else
 bif x.2.2.2.2 then
 (Z7j (x.1,x.2.2.1.1,(6:Int),x.2.1,x.2.2.2.1,x.2.2.1.2.2)).bind fun r31 =>
 bif (inb x.2.2.1.1 (List.length r31.1.2.1)) then
 (Z6j (r31,x.2.2.1.1,(getAt ((0:Int),(0:Int),(0:Int),false) r31.1.2.1 (toN x.2.2.1.1)).1,(getAt ((0:Int),(0:Int),(0:Int),false) r31.1.2.1 (toN x.2.2.1.1)).2.1,(getAt ((0:Int),(0:Int),(0:Int),false) r31.1.2.1 (toN x.2.2.1.1)).2.2.1,x.2.2.2.2)).bind fun r32 =>
 (Z6v (r32,x.2.2.1.1)).bind fun r33 =>
 (Z6r (r33,x.2.2.1.1)).bind fun r34 =>
 some r34
 else
 none
 else
 (Z7j (x.1,x.2.2.1.1,(5:Int),x.2.1,x.2.2.2.1,x.2.2.1.2.2)).bind fun r31 =>
 bif (inb x.2.2.1.1 (List.length r31.1.2.1)) then
 (Z6j (r31,x.2.2.1.1,(getAt ((0:Int),(0:Int),(0:Int),false) r31.1.2.1 (toN x.2.2.1.1)).1,(getAt ((0:Int),(0:Int),(0:Int),false) r31.1.2.1 (toN x.2.2.1.1)).2.1,(getAt ((0:Int),(0:Int),(0:Int),false) r31.1.2.1 (toN x.2.2.1.1)).2.2.1,x.2.2.2.2)).bind fun r32 =>
 (Z6v (r32,x.2.2.1.1)).bind fun r33 =>
 (Z6r (r33,x.2.2.1.1)).bind fun r34 =>
 some r34
 else
 none
abbrev Z14j:=Spec.shp Ztl Zz2 Z6d
def Zjg:Ctx:={ tb:=mkTb T2.tbl,fx:=[(210,[],Z14z),(52,[],Z154),(105,[],Z14m),(132,[],Z14s),(211,[],Z14q)],sum:=[],nt:=54,pin:=0,nr:=true,ys:=[] }
theorem Z6e:Sound Tryz.prog 180 (Z14j) :=
 Sound.shp (C:=Zjg) (fn:=Tryz.f180) (by kernel_rfl) (c:=bodyOf Tryz.f180) (by kernel_rfl) (by decide) (ctxOK mixed tbl_ok rfl ⟨Z7a,Z7k,Z6k,Z6w,Z6s,trivial⟩ trivial) (SumOK.of trivial) (by kernel_rfl) Ztl Zz2 rfl (by decide) (by decide) rfl (by decide) rfl Z6d (fun x=>by kernel_rfl)
abbrev Ztx:Shape:={ sl:=sl_42,bl:=[],ts:=ts_18,pin:=0 }
abbrev Zze:Shape:={ sl:=sl_39,bl:=[],ts:=[y46],pin:=0 }
def Z71 (x:T69):Option (T63) :=
 bif (inb x.2.1 (List.length x.1.1.2.2.1)) then
 (Z55 ((getAt ((0:Int),false,((0:Int),(0:Int),([]:List Int),(0:Int)),(0:Int),(0:Int),([]:List T7),([]:List T7)) x.1.1.2.2.1 (toN x.2.1)),x.2.2)).bind fun r25 =>
 (Z79 (x.1.1,x.2.2.1,x.2.2.2.1)).bind fun r26 =>
 bif r26 then
 bif (inb x.2.1 (List.length x.1.1.2.2.1)) then
 (Z59 ((getAt ((0:Int),false,((0:Int),(0:Int),([]:List Int),(0:Int)),(0:Int),(0:Int),([]:List T7),([]:List T7)) x.1.1.2.2.1 (toN x.2.1)),x.2.2)).bind fun r27 =>
 (Z69 (x.1,x.2.1,r27.1)).bind fun r28 =>
 bif (r27.2.1.1 == (0:Int)) then
 (Z7n (r28,x.2.2.1)).bind fun r29 =>
 some r29
 else
 bif (r27.2.1.1 == (3:Int)) then
 some ((r28.1.1,r28.1.2.1,r28.1.2.2.1,r28.1.2.2.2.1,r28.1.2.2.2.2.1,r28.1.2.2.2.2.2.1,(3:Int)),r28.2)
 else
 bif (decide (r27.2.1.2.2.1.1 ≥ (0:Int))) then
 (Z6d (r28,x.2.1,r27.2.1.2.2.1,r27.2.1.2.2.2,false)).bind fun r29 =>
 (Z6d (r29,x.2.1,x.2.2,r27.2.1.2.1,(r27.2.1.1 == (2:Int)))).bind fun r30 =>
 some r30
 else
 (Z6d (r28,x.2.1,x.2.2,r27.2.1.2.1,(r27.2.1.1 == (2:Int)))).bind fun r29 =>
 some r29
 else
 none
 else
 (Z69 (x.1,x.2.1,r25.1)).bind fun r27 =>
 bif (r25.2.1.1 == (0:Int)) then
 (Z7n (r27,x.2.2.1)).bind fun r28 =>
 some r28
 else
 bif (r25.2.1.1 == (3:Int)) then
 some ((r27.1.1,r27.1.2.1,r27.1.2.2.1,r27.1.2.2.2.1,r27.1.2.2.2.2.1,r27.1.2.2.2.2.2.1,(3:Int)),r27.2)
 else
 bif (decide (r25.2.1.2.2.1.1 ≥ (0:Int))) then
 (Z6d (r27,x.2.1,r25.2.1.2.2.1,r25.2.1.2.2.2,false)).bind fun r28 =>
 (Z6d (r28,x.2.1,x.2.2,r25.2.1.2.1,(r25.2.1.1 == (2:Int)))).bind fun r29 =>
 some r29
 else
 (Z6d (r27,x.2.1,x.2.2,r25.2.1.2.1,(r25.2.1.1 == (2:Int)))).bind fun r28 =>
 some r28
 else
 none
abbrev Z14v:=Spec.shp Ztx Zze Z71
def Zjy:Ctx:={ tb:=mkTb T2.tbl,fx:=[(181,[],Z13x),(210,[],Z14z),(182,[],Z13z),(178,[],Z14h),(183,[],Z156),(180,[],Z14j)],sum:=[],nt:=78,pin:=0,nr:=true,ys:=[] }
theorem Z72:Sound Tryz.prog 176 (Z14v) :=
 Sound.shp (C:=Zjy) (fn:=Tryz.f176) (by kernel_rfl) (c:=bodyOf Tryz.f176) (by kernel_rfl) (by decide) (ctxOK mixed tbl_ok rfl ⟨Z56,Z7a,Z5a,Z6a,Z7o,Z6e,trivial⟩ trivial) (SumOK.of trivial) (by kernel_rfl) Ztx Zze rfl (by decide) (by decide) rfl (by decide) rfl Z71 (fun x=>by kernel_rfl)
abbrev Ztw:Shape:={ sl:=sl_42,bl:=[],ts:=ts_18,pin:=0 }
abbrev Zzd:Shape:={ sl:=sl_39,bl:=[],ts:=[y46],pin:=0 }
def Z6z (x:T69):Option (T63) :=
 bif (x.2.2.1 == (2:Int)) then
 (Z73 (x.2.1,(4:Int),x.2.2.2.1)).bind fun r22 =>
 (Z7j (x.1,r22)).bind fun r23 =>
 (Z71 (r23,x.2.2.2.1,x.2.1,(0:Int),x.1.1.2.2.2.2.2.1)).bind fun r24 =>
 some r24
 else
 (Z73 (x.2.1,(2:Int),x.2.2.2.1)).bind fun r22 =>
 (Z7j (x.1,r22)).bind fun r23 =>
 (Z71 (r23,x.2.2.2.1,x.2.1,(0:Int),x.1.1.2.2.2.2.2.1)).bind fun r24 =>
 some r24
abbrev Z14u:=Spec.shp Ztw Zzd Z6z
def Zjx:Ctx:={ tb:=mkTb T2.tbl,fx:=[(53,[],Z14w),(52,[],Z154),(176,[],Z14v)],sum:=[],nt:=29,pin:=0,nr:=true,ys:=[] }
theorem Z70:Sound Tryz.prog 133 (Z14u) :=
 Sound.shp (C:=Zjx) (fn:=Tryz.f133) (by kernel_rfl) (c:=bodyOf Tryz.f133) (by kernel_rfl) (by decide) (ctxOK mixed tbl_ok rfl ⟨Z74,Z7k,Z72,trivial⟩ trivial) (SumOK.of trivial) (by kernel_rfl) Ztw Zzd rfl (by decide) (by decide) rfl (by decide) rfl Z6z (fun x=>by kernel_rfl)
abbrev Zsu:Shape:={ sl:=[(0,(.hole y40))],bl:=[],ts:=[y40],pin:=0 }
abbrev Zyb:Shape:={ sl:=[(0,(.hole y40)),(1,(.hole (.slice y5))),(2,(.hole .bool))],bl:=[],ts:=[y40,(.slice y5),.bool],pin:=0 }
def Z4v (x:T43):Option ((Int × T40) × List (T7) × Bool) :=
 bif (x.1 == (Int.negSucc 0)) then
 some (x,([]:List T7),true)
 else
 bif x.2.1 then
 some (x,([]:List T7),true)
 else
 bif (decide ((((List.length x.2.2.2.2.2.1):Nat):Int) > (0:Int))) then
 some (x,([]:List T7),true)
 else
 some ((x.1,true,x.2.2.1,x.2.2.2.1,x.2.2.2.2.1,x.2.2.2.2.2.1,([]:List T7)),x.2.2.2.2.2.2,false)
abbrev Z13s:=Spec.shp Zsu Zyb Z4v
def Zid:Ctx:={ tb:=mkTb T2.tbl,fx:=[],sum:=[],nt:=26,pin:=0,nr:=true,ys:=[] }
theorem Z4w:Sound Tryz.prog 177 (Z13s) :=
 Sound.shp (C:=Zid) (fn:=Tryz.f177) (by kernel_rfl) (c:=bodyOf Tryz.f177) (by kernel_rfl) (by decide) (ctxOK mixed tbl_ok rfl trivial trivial) (SumOK.of trivial) (by kernel_rfl) Zsu Zyb rfl (by decide) (by decide) rfl (by decide) rfl Z4v (fun x=>by kernel_rfl)
abbrev Zpy:Shape:={ sl:=[(3,(.ptr 0 [])),(5,(.ptr 1 [])),(6,(.ptr 2 [])),(8,(.hole (.slice y5))),(41,(.hole (.slice y5))),(42,(.hole (.int .i64))),(43,(.hole (.int .i64)))],bl:=bl_28,ts:=[(.slice y5),(.slice y5),(.int .i64),(.int .i64),y46,y5,(.int .i64),(.int .i64),(.int .i64),y4],pin:=0 }
abbrev Znz:List (ETag × Shape):=[(.exit 0,{ sl:=[(3,(.ptr 0 [])),(6,(.ptr 1 []))],bl:=bl_29,ts:=[y46,(.int .i64),(.int .i64),(.int .i64),y4],pin:=0 })]
def Ze1 (x:(List (T7) × List (T7) × Int × Int × T63 × T7 × Int × Int × Int × (Int × Int))):Option ((List (T7) × List (T7) × Int × Int × T63 × T7 × Int × Int × Int × (Int × Int)) ⊕ (T63 × Int × Int × Int × (Int × Int))) :=
 bif (decide (x.2.2.2.1 < x.2.2.1)) then
 bif (inb x.2.2.2.1 (List.length x.2.1)) then
 bif (sub3 (0:Int) x.2.2.2.1 (List.length x.1)) then
 (Z45 ((cut x.1 (toN (0:Int)) ((toN x.2.2.2.1) - (toN (0:Int)))),(getAt ((0:Int),(0:Int),(0:Int)) x.2.1 (toN x.2.2.2.1)).1)).bind fun r28 =>
 bif ((((List.length r28):Nat):Int) == x.2.2.2.1) then
 (Z6d (x.2.2.2.2.1,x.2.2.2.2.2.1.2.1,(getAt ((0:Int),(0:Int),(0:Int)) x.2.1 (toN x.2.2.2.1)),(0:Int),true)).bind fun r29 =>
 some (.inl (x.1,x.2.1,x.2.2.1,(IntKind.wrap .i64 (x.2.2.2.1+(1:Int))),r29,x.2.2.2.2.2.1,x.2.2.2.2.2.2.1,x.2.2.2.2.2.2.2.1,x.2.2.2.2.2.2.2.2.1,x.2.2.2.2.2.2.2.2.2))
 else
 some (.inl (x.1,x.2.1,x.2.2.1,(IntKind.wrap .i64 (x.2.2.2.1+(1:Int))),x.2.2.2.2.1,x.2.2.2.2.2.1,x.2.2.2.2.2.2.1,x.2.2.2.2.2.2.2.1,x.2.2.2.2.2.2.2.2.1,x.2.2.2.2.2.2.2.2.2))
 else
 none
 else
 none
 else
 some (.inr (x.2.2.2.2.1,x.2.2.2.2.2.2.1,x.2.2.2.2.2.2.2.1,x.2.2.2.2.2.2.2.2.1,x.2.2.2.2.2.2.2.2.2))
def Zk6:Ctx:={ tb:=mkTb T2.tbl,fx:=[(177,[],Z13s),(178,[],Z14h),(53,[],Z14w),(52,[],Z154),(132,[],Z14s),(179,[],Z13f),(180,[],Z14j)],sum:=[],nt:=64,pin:=0,nr:=true,ys:=[] }
theorem Ze2:CSound Tryz.prog ⟨64,0,true⟩ (.loop (loopOf 9 Tryz.f134)) (Yat Zpy Znz (loop Ze1)) :=
 Y89 (C:=Zk6) (ctxOK mixed tbl_ok rfl ⟨Z4w,Z6a,Z74,Z7k,Z6w,Z46,Z6e,trivial⟩ trivial) (SumOK.of trivial) Zpy Znz rfl rfl Ze1 (fun x=>by kernel_rfl)
abbrev Zu2:Shape:={ sl:=sl_42,bl:=[],ts:=ts_18,pin:=0 }
abbrev Zzj:Shape:={ sl:=sl_39,bl:=[],ts:=[y46],pin:=0 }
def Z7b (x:T69):Option (T63) :=
 bif (inb x.2.2.2.1 (List.length x.1.1.2.2.1)) then
 (Z4v (getAt ((0:Int),false,((0:Int),(0:Int),([]:List Int),(0:Int)),(0:Int),(0:Int),([]:List T7),([]:List T7)) x.1.1.2.2.1 (toN x.2.2.2.1))).bind fun r22 =>
 bif r22.2.2 then
 some ((x.1.1.1,x.1.1.2.1,x.1.1.2.2.1,x.1.1.2.2.2.1,x.1.1.2.2.2.2.1,x.1.1.2.2.2.2.2.1,(3:Int)),x.1.2)
 else
 (Z69 (x.1,x.2.2.2.1,r22.1)).bind fun r23 =>
 (Z73 (x.2.1,(7:Int),x.2.2.2.1)).bind fun r24 =>
 (Z7j (r23,r24)).bind fun r25 =>
 (Z6v (r25,x.2.1)).bind fun r26 =>
 (loop Ze1 (r22.2.1,r22.2.1,(((List.length r22.2.1):Nat):Int),(0:Int),r26,x.2.2,(0:Int),(0:Int),(0:Int),(0:Int),(0:Int))).bind fun r27 =>
 some r27.1
 else
 none
abbrev Z150:=Spec.shp Zu2 Zzj Z7b
def Zk5:Ctx:={ tb:=mkTb T2.tbl,fx:=[(177,[],Z13s),(178,[],Z14h),(53,[],Z14w),(52,[],Z154),(132,[],Z14s),(179,[],Z13f),(180,[],Z14j)],sum:=[(0,9,Yat Zpy Znz (loop Ze1))],nt:=64,pin:=0,nr:=true,ys:=[] }
theorem Z7c:Sound Tryz.prog 134 (Z150) :=
 Sound.shp (C:=Zk5) (fn:=Tryz.f134) (by kernel_rfl) (c:=bodyOf Tryz.f134) (by kernel_rfl) (by decide) (ctxOK mixed tbl_ok rfl ⟨Z4w,Z6a,Z74,Z7k,Z6w,Z46,Z6e,trivial⟩ trivial) (SumOK.of ⟨(Yav (d:=.loop (loopOf 9 Tryz.f134)) (by kernel_rfl) Ze2),trivial⟩) (by kernel_rfl) Zu2 Zzj rfl (by decide) (by decide) rfl (by decide) rfl Z7b (fun x=>by kernel_rfl)
abbrev Zpx:Shape:={ sl:=[(1,(.hole (.int .i64))),(4,(.ptr 0 [])),(8,(.ptr 1 [])),(9,(.hole (.int .i64))),(60,(.hole (.slice y2))),(61,(.hole (.int .i64))),(62,(.hole (.int .i64)))],bl:=bl_29,ts:=[(.int .i64),(.int .i64),(.slice y2),(.int .i64),(.int .i64),y46,(.int .i64),(.int .i64),(.int .i64),y4],pin:=0 }
abbrev Zny:List (ETag × Shape):=[(.exit 0,{ sl:=[(1,(.hole (.int .i64))),(4,(.ptr 0 [])),(8,(.ptr 1 []))],bl:=bl_29,ts:=[(.int .i64),y46,(.int .i64),(.int .i64),(.int .i64),y4],pin:=0 })]
def Zdz (x:(Int × Int × List T0 × Int × Int × T63 × Int × Int × Int × (Int × Int))):Option ((Int × Int × List T0 × Int × Int × T63 × Int × Int × Int × (Int × Int)) ⊕ (Int × T63 × Int × Int × Int × (Int × Int))) :=
 bif (decide (x.2.2.2.2.1 < x.2.2.2.1)) then
 bif (inb x.2.2.2.2.1 (List.length x.2.2.1)) then
 bif (inb (getAt (false,(0:Int)) x.2.2.1 (toN x.2.2.2.2.1)).2 (List.length x.2.2.2.2.2.1.1.2.2.1)) then
 (Z55 ((getAt ((0:Int),false,((0:Int),(0:Int),([]:List Int),(0:Int)),(0:Int),(0:Int),([]:List T7),([]:List T7)) x.2.2.2.2.2.1.1.2.2.1 (toN (getAt (false,(0:Int)) x.2.2.1 (toN x.2.2.2.2.1)).2)),x.1,x.2.2.2.2.1,x.2.1)).bind fun r25 =>
 bif (getAt (false,(0:Int)) x.2.2.1 (toN x.2.2.2.2.1)).1 then
 bif (inb (getAt (false,(0:Int)) x.2.2.1 (toN x.2.2.2.2.1)).2 (List.length x.2.2.2.2.2.1.1.2.2.1)) then
 (Z59 ((getAt ((0:Int),false,((0:Int),(0:Int),([]:List Int),(0:Int)),(0:Int),(0:Int),([]:List T7),([]:List T7)) x.2.2.2.2.2.1.1.2.2.1 (toN (getAt (false,(0:Int)) x.2.2.1 (toN x.2.2.2.2.1)).2)),x.1,x.2.2.2.2.1,x.2.1)).bind fun r26 =>
 (Z69 (x.2.2.2.2.2.1,(getAt (false,(0:Int)) x.2.2.1 (toN x.2.2.2.2.1)).2,r26.1)).bind fun r27 =>
 some (.inl (x.1,x.2.1,x.2.2.1,x.2.2.2.1,(IntKind.wrap .i64 (x.2.2.2.2.1+(1:Int))),r27,x.2.2.2.2.2.2.1,x.2.2.2.2.2.2.2.1,x.2.2.2.2.2.2.2.2.1,x.2.2.2.2.2.2.2.2.2))
 else
 none
 else
 (Z69 (x.2.2.2.2.2.1,(getAt (false,(0:Int)) x.2.2.1 (toN x.2.2.2.2.1)).2,r25.1)).bind fun r26 =>
 some (.inl (x.1,x.2.1,x.2.2.1,x.2.2.2.1,(IntKind.wrap .i64 (x.2.2.2.2.1+(1:Int))),r26,x.2.2.2.2.2.2.1,x.2.2.2.2.2.2.2.1,x.2.2.2.2.2.2.2.2.1,x.2.2.2.2.2.2.2.2.2))
 else
 none
 else
 none
 else
 some (.inr (x.1,x.2.2.2.2.2.1,x.2.2.2.2.2.2.1,x.2.2.2.2.2.2.2.1,x.2.2.2.2.2.2.2.2.1,x.2.2.2.2.2.2.2.2.2))
def Zk3:Ctx:={ tb:=mkTb T2.tbl,fx:=[(53,[],Z14w),(52,[],Z154),(176,[],Z14v),(132,[],Z14s),(181,[],Z13x),(182,[],Z13z),(178,[],Z14h)],sum:=[],nt:=108,pin:=0,nr:=true,ys:=[] }
theorem Ze0:CSound Tryz.prog ⟨108,0,true⟩ (.loop (loopOf 10 Tryz.f135)) (Yat Zpx Zny (loop Zdz)) :=
 Y89 (C:=Zk3) (ctxOK mixed tbl_ok rfl ⟨Z74,Z7k,Z72,Z6w,Z56,Z5a,Z6a,trivial⟩ trivial) (SumOK.of trivial) Zpx Zny rfl rfl Zdz (fun x=>by kernel_rfl)
abbrev Zu0:Shape:={ sl:=[(0,(.hole y46)),(1,(.hole (.int .i64))),(2,(.hole (.int .i64))),(3,(.hole y5))],bl:=[],ts:=[y46,(.int .i64),(.int .i64),y5],pin:=0 }
abbrev Zzh:Shape:={ sl:=sl_39,bl:=[],ts:=[y46],pin:=0 }
def Z77 (x:(T63 × Int × Int × T7)):Option (T63) :=
 (Z73 (x.2.1,(8:Int),x.2.2.2.2.1)).bind fun r22 =>
 (Z7j (x.1,r22)).bind fun r23 =>
 bif (inb x.2.2.2.2.1 (List.length r23.1.1.2.2.2.2.1)) then
 bif (decide (x.2.2.1 ≥ (0:Int))) then
 bif (inb x.2.2.1 (List.length (getAt (([]:List T0),false) r23.1.1.2.2.2.2.1 (toN x.2.2.2.2.1)).1)) then
 (Z71 (r23,(getAt (false,(0:Int)) (getAt (([]:List T0),false) r23.1.1.2.2.2.2.1 (toN x.2.2.2.2.1)).1 (toN x.2.2.1)).2,x.2.1,x.2.2.1,x.1.1.2.2.2.2.2.1)).bind fun r24 =>
 some r24
 else
 none
 else
 bif (getAt (([]:List T0),false) r23.1.1.2.2.2.2.1 (toN x.2.2.2.2.1)).2 then
 (Z7j (r23,x.2.1,(9:Int),x.2.2.2.2.1,(0:Int),x.1.1.2.2.2.2.2.1)).bind fun r24 =>
 (Z6v (r24,x.2.1)).bind fun r25 =>
 some r25
 else
 (loop Zdz (x.2.1,x.1.1.2.2.2.2.2.1,(getAt (([]:List T0),false) r23.1.1.2.2.2.2.1 (toN x.2.2.2.2.1)).1,(((List.length (getAt (([]:List T0),false) r23.1.1.2.2.2.2.1 (toN x.2.2.2.2.1)).1):Nat):Int),(0:Int),r23,(0:Int),(0:Int),(0:Int),(0:Int),(0:Int))).bind fun r24 =>
 (Z7n (r24.2.1,r24.1)).bind fun r25 =>
 some r25
 else
 none
abbrev Z14y:=Spec.shp Zu0 Zzh Z77
def Zk2:Ctx:={ tb:=mkTb T2.tbl,fx:=[(53,[],Z14w),(52,[],Z154),(176,[],Z14v),(132,[],Z14s),(181,[],Z13x),(182,[],Z13z),(178,[],Z14h),(183,[],Z156)],sum:=[(0,10,Yat Zpx Zny (loop Zdz))],nt:=108,pin:=0,nr:=true,ys:=[] }
theorem Z78:Sound Tryz.prog 135 (Z14y) :=
 Sound.shp (C:=Zk2) (fn:=Tryz.f135) (by kernel_rfl) (c:=bodyOf Tryz.f135) (by kernel_rfl) (by decide) (ctxOK mixed tbl_ok rfl ⟨Z74,Z7k,Z72,Z6w,Z56,Z5a,Z6a,Z7o,trivial⟩ trivial) (SumOK.of ⟨(Yav (d:=.loop (loopOf 10 Tryz.f135)) (by kernel_rfl) Ze0),trivial⟩) (by kernel_rfl) Zu0 Zzh rfl (by decide) (by decide) rfl (by decide) rfl Z77 (fun x=>by kernel_rfl)
abbrev Zt7:Shape:={ sl:=[(0,(.hole y15)),(1,(.hole y5))],bl:=[],ts:=[y15,y5],pin:=0 }
abbrev Zyo:Shape:={ sl:=[(0,(.hole y15)),(1,(.hole .bool)),(2,(.hole (.int .i64)))],bl:=[],ts:=[y15,.bool,(.int .i64)],pin:=0 }
def Z5l (x:(T18 × T7)):Option (T18 × Bool × Int) :=
 bif (Bool.not x.1.1) then
 some ((true,([]:List T7)),true,(0:Int))
 else
 (Z49 (x.1.2,x.2.1,x.2.2.1)).bind fun r26 =>
 bif r26 then
 some ((false,([]:List T7)),false,(7:Int))
 else
 bif ((((List.length x.1.2):Nat):Int) == (64:Int)) then
 some ((false,([]:List T7)),false,(5:Int))
 else
 bif (fits ((List.length ([]:List T7))+(List.length x.1.2))) then
 bif (fits ((List.length (([]:List T7)++x.1.2))+(List.length (x.2 :: ([]:List T7))))) then
 some ((true,((([]:List T7)++x.1.2)++(x.2 :: ([]:List T7)))),false,(0:Int))
 else
 none
 else
 none
abbrev Z145:=Spec.shp Zt7 Zyo Z5l
def Zis:Ctx:={ tb:=mkTb T2.tbl,fx:=[(237,[],Z13h)],sum:=[],nt:=35,pin:=0,nr:=true,ys:=[] }
theorem Z5m:Sound Tryz.prog 216 (Z145) :=
 Sound.shp (C:=Zis) (fn:=Tryz.f216) (by kernel_rfl) (c:=bodyOf Tryz.f216) (by kernel_rfl) (by decide) (ctxOK mixed tbl_ok rfl ⟨Z4a,trivial⟩ trivial) (SumOK.of trivial) (by kernel_rfl) Zt7 Zyo rfl (by decide) (by decide) rfl (by decide) rfl Z5l (fun x=>by kernel_rfl)
abbrev Zpu:Shape:={ sl:=[(1,(.hole (.int .i64))),(3,(.ptr 0 [])),(5,(.ptr 1 [])),(6,(.ptr 2 [])),(7,(.sl 3)),(13,(.hole y19)),(14,(.hole (.int .i64))),(15,(.hole (.int .i64)))],bl:=[.var (.hole y46),.var (.hole y15),.var (.pr (.pr (.pr .nl (.pr (.hole (.int .i64)) (.pr (.hole (.int .i64)) (.pr (.hole (.int .i64)) (.pr .nl .nl))))) (.pr .nl (.pr .nl (.pr .nl (.pr .nl (.hole y4)))))) .nl),.row y15],ts:=[(.int .i64),y19,(.int .i64),(.int .i64),y46,y15,(.int .i64),(.int .i64),(.int .i64),y4,y19],pin:=0 }
abbrev Znv:List (ETag × Shape):=[(.exit 0,{ sl:=sl_40,bl:=[.var (.hole y46),.var (.pr (.pr (.pr .nl (.pr (.hole (.int .i64)) (.pr (.hole (.int .i64)) (.pr (.hole (.int .i64)) (.pr .nl .nl))))) (.pr .nl (.pr .nl (.pr .nl (.pr .nl (.hole y4)))))) .nl),.row y15],ts:=[y46,(.int .i64),(.int .i64),(.int .i64),y4,y19],pin:=0 })]
def Zdt (x:(Int × List (T18) × Int × Int × T63 × T18 × Int × Int × Int × (Int × Int) × List (T18))):Option ((Int × List (T18) × Int × Int × T63 × T18 × Int × Int × Int × (Int × Int) × List (T18)) ⊕ (T63 × Int × Int × Int × (Int × Int) × List (T18))) :=
 bif (decide (x.2.2.2.1 < x.2.2.1)) then
 bif (inb x.2.2.2.1 (List.length x.2.1)) then
 bif (x.2.2.2.1 == x.1) then
 bif (fits ((List.length x.2.2.2.2.2.2.2.2.2.2)+(List.length (x.2.2.2.2.2.1 :: ([]:List T22))))) then
 some (.inl (x.1,x.2.1,x.2.2.1,(IntKind.wrap .i64 (x.2.2.2.1+(1:Int))),x.2.2.2.2.1,x.2.2.2.2.2.1,x.2.2.2.2.2.2.1,x.2.2.2.2.2.2.2.1,x.2.2.2.2.2.2.2.2.1,x.2.2.2.2.2.2.2.2.2.1,(x.2.2.2.2.2.2.2.2.2.2++(x.2.2.2.2.2.1 :: ([]:List T22)))))
 else
 none
 else
 bif (fits ((List.length x.2.2.2.2.2.2.2.2.2.2)+(List.length ((getAt (false,([]:List T7)) x.2.1 (toN x.2.2.2.1)) :: ([]:List T22))))) then
 some (.inl (x.1,x.2.1,x.2.2.1,(IntKind.wrap .i64 (x.2.2.2.1+(1:Int))),x.2.2.2.2.1,x.2.2.2.2.2.1,x.2.2.2.2.2.2.1,x.2.2.2.2.2.2.2.1,x.2.2.2.2.2.2.2.2.1,x.2.2.2.2.2.2.2.2.2.1,(x.2.2.2.2.2.2.2.2.2.2++((getAt (false,([]:List T7)) x.2.1 (toN x.2.2.2.1)) :: ([]:List T22)))))
 else
 none
 else
 none
 else
 some (.inr (x.2.2.2.2.1,x.2.2.2.2.2.2.1,x.2.2.2.2.2.2.2.1,x.2.2.2.2.2.2.2.2.1,x.2.2.2.2.2.2.2.2.2.1,x.2.2.2.2.2.2.2.2.2.2))
def Zjt:Ctx:={ tb:=mkTb T2.tbl,fx:=[],sum:=[],nt:=33,pin:=0,nr:=true,ys:=[] }
theorem Zdu:CSound Tryz.prog ⟨33,0,true⟩ (.loop (loopOf 4 Tryz.f217)) (Yat Zpu Znv (loop Zdt)) :=
 Y89 (C:=Zjt) (ctxOK mixed tbl_ok rfl trivial trivial) (SumOK.of trivial) Zpu Znv rfl rfl Zdt (fun x=>by kernel_rfl)
abbrev Ztt:Shape:={ sl:=[(0,(.hole y46)),(1,(.hole (.int .i64))),(2,(.hole y15))],bl:=[],ts:=[y46,(.int .i64),y15],pin:=0 }
abbrev Zza:Shape:={ sl:=sl_39,bl:=[],ts:=[y46],pin:=0 }
def Z6t (x:(T63 × Int × T18)):Option (T63) :=
 (loop Zdt (x.2.1,x.1.1.2.2.2.1,(((List.length x.1.1.2.2.2.1):Nat):Int),(0:Int),x.1,x.2.2,(0:Int),(0:Int),(0:Int),((0:Int),(0:Int)),([]:List T22))).bind fun r27 =>
 some ((r27.1.1.1,r27.1.1.2.1,r27.1.1.2.2.1,r27.2.2.2.2.2,r27.1.1.2.2.2.2),r27.1.2)
abbrev Z14r:=Spec.shp Ztt Zza Z6t
def Zjs:Ctx:={ tb:=mkTb T2.tbl,fx:=[],sum:=[(0,4,Yat Zpu Znv (loop Zdt))],nt:=33,pin:=0,nr:=true,ys:=[] }
theorem Z6u:Sound Tryz.prog 217 (Z14r) :=
 Sound.shp (C:=Zjs) (fn:=Tryz.f217) (by kernel_rfl) (c:=bodyOf Tryz.f217) (by kernel_rfl) (by decide) (ctxOK mixed tbl_ok rfl trivial trivial) (SumOK.of ⟨(Yav (d:=.loop (loopOf 4 Tryz.f217)) (by kernel_rfl) Zdu),trivial⟩) (by kernel_rfl) Ztt Zza rfl (by decide) (by decide) rfl (by decide) rfl Z6t (fun x=>by kernel_rfl)
abbrev Zu5:Shape:={ sl:=sl_42,bl:=[],ts:=ts_18,pin:=0 }
abbrev Zzm:Shape:={ sl:=sl_39,bl:=[],ts:=[y46],pin:=0 }
def Z7h (x:T69):Option (T63) :=
 (Z73 (x.2.1,(10:Int),x.2.2.2.1)).bind fun r23 =>
 (Z7j (x.1,r23)).bind fun r24 =>
 bif (inb x.2.2.2.1 (List.length r24.1.2.2.2.1)) then
 (Z5l ((getAt (false,([]:List T7)) r24.1.2.2.2.1 (toN x.2.2.2.1)),x.2.1,(0:Int),x.1.1.2.2.2.2.2.1)).bind fun r25 =>
 (Z6t (r24,x.2.2.2.1,r25.1)).bind fun r26 =>
 bif (Bool.not r25.2.1) then
 (Z7n (r26,x.2.1)).bind fun r27 =>
 some r27
 else
 (Z7j (r26,x.2.1,(11:Int),x.2.2.2.1,(0:Int),x.1.1.2.2.2.2.2.1)).bind fun r27 =>
 (Z6v (r27,x.2.1)).bind fun r28 =>
 some r28
 else
 none
abbrev Z153:=Spec.shp Zu5 Zzm Z7h
def Zka:Ctx:={ tb:=mkTb T2.tbl,fx:=[(53,[],Z14w),(52,[],Z154),(216,[],Z145),(217,[],Z14r),(183,[],Z156),(132,[],Z14s)],sum:=[],nt:=54,pin:=0,nr:=true,ys:=[] }
theorem Z7i:Sound Tryz.prog 184 (Z153) :=
 Sound.shp (C:=Zka) (fn:=Tryz.f184) (by kernel_rfl) (c:=bodyOf Tryz.f184) (by kernel_rfl) (by decide) (ctxOK mixed tbl_ok rfl ⟨Z74,Z7k,Z5m,Z6u,Z7o,Z6w,trivial⟩ trivial) (SumOK.of trivial) (by kernel_rfl) Zu5 Zzm rfl (by decide) (by decide) rfl (by decide) rfl Z7h (fun x=>by kernel_rfl)
abbrev Zt5:Shape:={ sl:=[(0,(.hole y15))],bl:=[],ts:=[y15],pin:=0 }
abbrev Zym:Shape:={ sl:=[(0,(.hole y15)),(1,(.hole y5)),(2,(.hole .bool))],bl:=[],ts:=[y15,y5,.bool],pin:=0 }
def Z5h (x:(T18)):Option (T18 × T7 × Bool) :=
 bif ((((List.length x.2):Nat):Int) == (0:Int)) then
 some ((false,([]:List T7)),((0:Int),(0:Int),(0:Int)),false)
 else
 bif (sub3 (1:Int) (((List.length x.2):Nat):Int) (List.length x.2)) then
 bif (inb (0:Int) (List.length x.2)) then
 some ((true,(cut x.2 (toN (1:Int)) ((toN (((List.length x.2):Nat):Int)) - (toN (1:Int))))),(getAt ((0:Int),(0:Int),(0:Int)) x.2 (toN (0:Int))),true)
 else
 none
 else
 none
abbrev Z143:=Spec.shp Zt5 Zym Z5h
def Ziq:Ctx:={ tb:=mkTb T2.tbl,fx:=[],sum:=[],nt:=19,pin:=0,nr:=true,ys:=[] }
theorem Z5i:Sound Tryz.prog 218 (Z143) :=
 Sound.shp (C:=Ziq) (fn:=Tryz.f218) (by kernel_rfl) (c:=bodyOf Tryz.f218) (by kernel_rfl) (by decide) (ctxOK mixed tbl_ok rfl trivial trivial) (SumOK.of trivial) (by kernel_rfl) Zt5 Zym rfl (by decide) (by decide) rfl (by decide) rfl Z5h (fun x=>by kernel_rfl)
abbrev Ztn:Shape:={ sl:=sl_42,bl:=[],ts:=ts_18,pin:=0 }
abbrev Zz4:Shape:={ sl:=sl_39,bl:=[],ts:=[y46],pin:=0 }
def Z6h (x:T69):Option (T63) :=
 bif (inb x.2.2.2.1 (List.length x.1.1.2.2.2.1)) then
 bif (Bool.not (getAt (false,([]:List T7)) x.1.1.2.2.2.1 (toN x.2.2.2.1)).1) then
 some ((x.1.1.1,x.1.1.2.1,x.1.1.2.2.1,x.1.1.2.2.2.1,x.1.1.2.2.2.2.1,x.1.1.2.2.2.2.2.1,(3:Int)),x.1.2)
 else
 bif (inb x.2.2.2.1 (List.length x.1.1.2.2.2.1)) then
 (Z5h (getAt (false,([]:List T7)) x.1.1.2.2.2.1 (toN x.2.2.2.1))).bind fun r23 =>
 (Z6t (x.1,x.2.2.2.1,r23.1)).bind fun r24 =>
 (Z73 (x.2.1,(12:Int),x.2.2.2.1)).bind fun r25 =>
 (Z7j (r24,r25)).bind fun r26 =>
 (Z6v (r26,x.2.1)).bind fun r27 =>
 bif r23.2.2 then
 (Z7j (r27,r23.2.1.1,(11:Int),x.2.2.2.1,(0:Int),r23.2.1.2.2)).bind fun r28 =>
 (Z6v (r28,r23.2.1.1)).bind fun r29 =>
 some r29
 else
 some r27
 else
 none
 else
 none
abbrev Z14l:=Spec.shp Ztn Zz4 Z6h
def Zjj:Ctx:={ tb:=mkTb T2.tbl,fx:=[(218,[],Z143),(217,[],Z14r),(53,[],Z14w),(52,[],Z154),(132,[],Z14s)],sum:=[],nt:=60,pin:=0,nr:=true,ys:=[] }
theorem Z6i:Sound Tryz.prog 185 (Z14l) :=
 Sound.shp (C:=Zjj) (fn:=Tryz.f185) (by kernel_rfl) (c:=bodyOf Tryz.f185) (by kernel_rfl) (by decide) (ctxOK mixed tbl_ok rfl ⟨Z5i,Z6u,Z74,Z7k,Z6w,trivial⟩ trivial) (SumOK.of trivial) (by kernel_rfl) Ztn Zz4 rfl (by decide) (by decide) rfl (by decide) rfl Z6h (fun x=>by kernel_rfl)
abbrev Zt8:Shape:={ sl:=sl_30,bl:=[],ts:=[y23,y5],pin:=0 }
abbrev Zyp:Shape:={ sl:=sl_31,bl:=[],ts:=ts_15,pin:=0 }
def Z5n (x:T30):Option T34 :=
 bif (x.1.1 == (0:Int)) then
 some (((1:Int),x.2.1,([]:List T7)),(0:Int),(0:Int))
 else
 bif (x.1.1 == (2:Int)) then
 some (x.1,(2:Int),(0:Int))
 else
 bif (x.1.2.1 == x.2.1) then
 some (((0:Int),(0:Int),([]:List T7)),(0:Int),(6:Int))
 else
 (Z49 (x.1.2.2,x.2.1,x.2.2.1)).bind fun r26 =>
 bif r26 then
 some (((0:Int),(0:Int),([]:List T7)),(0:Int),(7:Int))
 else
 bif ((((List.length x.1.2.2):Nat):Int) == (64:Int)) then
 some (((0:Int),(0:Int),([]:List T7)),(0:Int),(5:Int))
 else
 bif (fits ((List.length ([]:List T7))+(List.length x.1.2.2))) then
 bif (fits ((List.length (([]:List T7)++x.1.2.2))+(List.length (x.2 :: ([]:List T7))))) then
 some ((x.1.1,x.1.2.1,((([]:List T7)++x.1.2.2)++(x.2 :: ([]:List T7)))),(1:Int),(0:Int))
 else
 none
 else
 none
abbrev Z146:=Spec.shp Zt8 Zyp Z5n
def Zit:Ctx:={ tb:=mkTb T2.tbl,fx:=[(237,[],Z13h)],sum:=[],nt:=48,pin:=0,nr:=true,ys:=[] }
theorem Z5o:Sound Tryz.prog 219 (Z146) :=
 Sound.shp (C:=Zit) (fn:=Tryz.f219) (by kernel_rfl) (c:=bodyOf Tryz.f219) (by kernel_rfl) (by decide) (ctxOK mixed tbl_ok rfl ⟨Z4a,trivial⟩ trivial) (SumOK.of trivial) (by kernel_rfl) Zt8 Zyp rfl (by decide) (by decide) rfl (by decide) rfl Z5n (fun x=>by kernel_rfl)
abbrev Zpv:Shape:={ sl:=[(1,(.hole (.int .i64))),(3,(.ptr 0 [])),(5,(.ptr 1 [])),(6,(.ptr 2 [])),(7,(.sl 3)),(13,(.hole y26)),(14,(.hole (.int .i64))),(15,(.hole (.int .i64)))],bl:=[.var (.hole y46),.var (.hole y23),.var (.pr (.pr (.pr .nl (.pr (.hole (.int .i64)) (.pr (.hole (.int .i64)) (.pr (.hole (.int .i64)) (.pr .nl .nl))))) (.pr .nl (.pr .nl (.pr .nl (.pr .nl (.hole y4)))))) .nl),.row y23],ts:=[(.int .i64),y26,(.int .i64),(.int .i64),y46,y23,(.int .i64),(.int .i64),(.int .i64),y4,y26],pin:=0 }
abbrev Znw:List (ETag × Shape):=[(.exit 0,{ sl:=sl_40,bl:=[.var (.hole y46),.var (.pr (.pr (.pr .nl (.pr (.hole (.int .i64)) (.pr (.hole (.int .i64)) (.pr (.hole (.int .i64)) (.pr .nl .nl))))) (.pr .nl (.pr .nl (.pr .nl (.pr .nl (.hole y4)))))) .nl),.row y23],ts:=[y46,(.int .i64),(.int .i64),(.int .i64),y4,y26],pin:=0 })]
def Zdv (x:(Int × List T29 × Int × Int × T63 × (Int × T13) × Int × Int × Int × (Int × Int) × List T29)):Option ((Int × List T29 × Int × Int × T63 × (Int × T13) × Int × Int × Int × (Int × Int) × List T29) ⊕ (T63 × Int × Int × Int × (Int × Int) × List T29)) :=
 bif (decide (x.2.2.2.1 < x.2.2.1)) then
 bif (inb x.2.2.2.1 (List.length x.2.1)) then
 bif (x.2.2.2.1 == x.1) then
 bif (fits ((List.length x.2.2.2.2.2.2.2.2.2.2)+(List.length (x.2.2.2.2.2.1 :: ([]:List (Int × T14)))))) then
 some (.inl (x.1,x.2.1,x.2.2.1,(IntKind.wrap .i64 (x.2.2.2.1+(1:Int))),x.2.2.2.2.1,x.2.2.2.2.2.1,x.2.2.2.2.2.2.1,x.2.2.2.2.2.2.2.1,x.2.2.2.2.2.2.2.2.1,x.2.2.2.2.2.2.2.2.2.1,(x.2.2.2.2.2.2.2.2.2.2++(x.2.2.2.2.2.1 :: ([]:List (Int × T14))))))
 else
 none
 else
 bif (fits ((List.length x.2.2.2.2.2.2.2.2.2.2)+(List.length ((getAt ((0:Int),(0:Int),([]:List T7)) x.2.1 (toN x.2.2.2.1)) :: ([]:List (Int × T14)))))) then
 some (.inl (x.1,x.2.1,x.2.2.1,(IntKind.wrap .i64 (x.2.2.2.1+(1:Int))),x.2.2.2.2.1,x.2.2.2.2.2.1,x.2.2.2.2.2.2.1,x.2.2.2.2.2.2.2.1,x.2.2.2.2.2.2.2.2.1,x.2.2.2.2.2.2.2.2.2.1,(x.2.2.2.2.2.2.2.2.2.2++((getAt ((0:Int),(0:Int),([]:List T7)) x.2.1 (toN x.2.2.2.1)) :: ([]:List (Int × T14))))))
 else
 none
 else
 none
 else
 some (.inr (x.2.2.2.2.1,x.2.2.2.2.2.2.1,x.2.2.2.2.2.2.2.1,x.2.2.2.2.2.2.2.2.1,x.2.2.2.2.2.2.2.2.2.1,x.2.2.2.2.2.2.2.2.2.2))
def Zjw:Ctx:={ tb:=mkTb T2.tbl,fx:=[],sum:=[],nt:=33,pin:=0,nr:=true,ys:=[] }
theorem Zdw:CSound Tryz.prog ⟨33,0,true⟩ (.loop (loopOf 4 Tryz.f220)) (Yat Zpv Znw (loop Zdv)) :=
 Y89 (C:=Zjw) (ctxOK mixed tbl_ok rfl trivial trivial) (SumOK.of trivial) Zpv Znw rfl rfl Zdv (fun x=>by kernel_rfl)
abbrev Ztv:Shape:={ sl:=[(0,(.hole y46)),(1,(.hole (.int .i64))),(2,(.hole y23))],bl:=[],ts:=[y46,(.int .i64),y23],pin:=0 }
abbrev Zzc:Shape:={ sl:=sl_39,bl:=[],ts:=[y46],pin:=0 }
def Z6x (x:(T63 × Int × (Int × T13))):Option (T63) :=
 (loop Zdv (x.2.1,x.1.1.2.2.2.2.1,(((List.length x.1.1.2.2.2.2.1):Nat):Int),(0:Int),x.1,x.2.2,(0:Int),(0:Int),(0:Int),((0:Int),(0:Int)),([]:List (Int × T14)))).bind fun r27 =>
 some ((r27.1.1.1,r27.1.1.2.1,r27.1.1.2.2.1,r27.1.1.2.2.2.1,r27.2.2.2.2.2,r27.1.1.2.2.2.2.2),r27.1.2)
abbrev Z14t:=Spec.shp Ztv Zzc Z6x
def Zjv:Ctx:={ tb:=mkTb T2.tbl,fx:=[],sum:=[(0,4,Yat Zpv Znw (loop Zdv))],nt:=33,pin:=0,nr:=true,ys:=[] }
theorem Z6y:Sound Tryz.prog 220 (Z14t) :=
 Sound.shp (C:=Zjv) (fn:=Tryz.f220) (by kernel_rfl) (c:=bodyOf Tryz.f220) (by kernel_rfl) (by decide) (ctxOK mixed tbl_ok rfl trivial trivial) (SumOK.of ⟨(Yav (d:=.loop (loopOf 4 Tryz.f220)) (by kernel_rfl) Zdw),trivial⟩) (by kernel_rfl) Ztv Zzc rfl (by decide) (by decide) rfl (by decide) rfl Z6x (fun x=>by kernel_rfl)
abbrev Ztk:Shape:={ sl:=sl_42,bl:=[],ts:=ts_18,pin:=0 }
abbrev Zz1:Shape:={ sl:=sl_39,bl:=[],ts:=[y46],pin:=0 }
def Z6b (x:T69):Option (T63) :=
 (Z73 (x.2.1,(13:Int),x.2.2.2.1)).bind fun r23 =>
 (Z7j (x.1,r23)).bind fun r24 =>
 bif (inb x.2.2.2.1 (List.length r24.1.2.2.2.2.1)) then
 (Z5n ((getAt ((0:Int),(0:Int),([]:List T7)) r24.1.2.2.2.2.1 (toN x.2.2.2.1)),x.2.1,(0:Int),x.1.1.2.2.2.2.2.1)).bind fun r25 =>
 bif (r25.2.2 != (0:Int)) then
 (Z7n (r24,x.2.1)).bind fun r26 =>
 some r26
 else
 (Z6x (r24,x.2.2.2.1,r25.1)).bind fun r26 =>
 bif (r25.2.1 == (0:Int)) then
 (Z6v (r26,x.2.1)).bind fun r27 =>
 some r27
 else
 bif (r25.2.1 == (1:Int)) then
 (Z7n (r26,x.2.1)).bind fun r27 =>
 some r27
 else
 (Z7j (r26,x.2.1,(15:Int),x.2.2.2.1,(0:Int),x.1.1.2.2.2.2.2.1)).bind fun r27 =>
 (Z7l (r27,x.2.1,x.2.2.2.2)).bind fun r28 =>
 some r28
 else
 none
abbrev Z14i:=Spec.shp Ztk Zz1 Z6b
def Zjf:Ctx:={ tb:=mkTb T2.tbl,fx:=[(53,[],Z14w),(52,[],Z154),(219,[],Z146),(183,[],Z156),(220,[],Z14t),(132,[],Z14s),(51,[],Z155)],sum:=[],nt:=66,pin:=0,nr:=true,ys:=[] }
theorem Z6c:Sound Tryz.prog 186 (Z14i) :=
 Sound.shp (C:=Zjf) (fn:=Tryz.f186) (by kernel_rfl) (c:=bodyOf Tryz.f186) (by kernel_rfl) (by decide) (ctxOK mixed tbl_ok rfl ⟨Z74,Z7k,Z5o,Z7o,Z6y,Z6w,Z7m,trivial⟩ trivial) (SumOK.of trivial) (by kernel_rfl) Ztk Zz1 rfl (by decide) (by decide) rfl (by decide) rfl Z6b (fun x=>by kernel_rfl)
abbrev Zt9:Shape:={ sl:=[(0,(.hole y23)),(1,(.hole (.int .i64)))],bl:=[],ts:=[y23,(.int .i64)],pin:=0 }
abbrev Zyq:Shape:={ sl:=[(0,(.hole y23)),(1,(.hole (.slice y5))),(2,(.hole .bool))],bl:=[],ts:=[y23,(.slice y5),.bool],pin:=0 }
def Z5p (x:((Int × T13) × Int)):Option ((Int × T13) × List (T7) × Bool) :=
 bif (x.1.1 != (1:Int)) then
 some (((0:Int),(0:Int),([]:List T7)),([]:List T7),false)
 else
 bif (x.1.2.1 != x.2) then
 some (((0:Int),(0:Int),([]:List T7)),([]:List T7),false)
 else
 some (((2:Int),(0:Int),([]:List T7)),x.1.2.2,true)
abbrev Z147:=Spec.shp Zt9 Zyq Z5p
def Ziu:Ctx:={ tb:=mkTb T2.tbl,fx:=[],sum:=[],nt:=20,pin:=0,nr:=true,ys:=[] }
theorem Z5q:Sound Tryz.prog 221 (Z147) :=
 Sound.shp (C:=Ziu) (fn:=Tryz.f221) (by kernel_rfl) (c:=bodyOf Tryz.f221) (by kernel_rfl) (by decide) (ctxOK mixed tbl_ok rfl trivial trivial) (SumOK.of trivial) (by kernel_rfl) Zt9 Zyq rfl (by decide) (by decide) rfl (by decide) rfl Z5p (fun x=>by kernel_rfl)
abbrev Zpq:Shape:={ sl:=[(3,(.ptr 0 [])),(5,(.ptr 1 [])),(6,(.ptr 2 [])),(42,(.hole (.slice y5))),(43,(.hole (.int .i64))),(44,(.hole (.int .i64)))],bl:=bl_28,ts:=[(.slice y5),(.int .i64),(.int .i64),y46,y5,(.int .i64),(.int .i64),(.int .i64),y4],pin:=0 }
abbrev Znr:List (ETag × Shape):=[(.exit 0,{ sl:=[(3,(.ptr 0 [])),(6,(.ptr 1 []))],bl:=bl_29,ts:=[y46,(.int .i64),(.int .i64),(.int .i64),y4],pin:=0 })]
def Zdl (x:(List (T7) × Int × Int × T63 × T7 × Int × Int × Int × (Int × Int))):Option ((List (T7) × Int × Int × T63 × T7 × Int × Int × Int × (Int × Int)) ⊕ (T63 × Int × Int × Int × (Int × Int))) :=
 bif (decide (x.2.2.1 < x.2.1)) then
 bif (inb x.2.2.1 (List.length x.1)) then
 (Z7j (x.2.2.2.1,(getAt ((0:Int),(0:Int),(0:Int)) x.1 (toN x.2.2.1)).1,(15:Int),x.2.2.2.2.1.2.1,(0:Int),(getAt ((0:Int),(0:Int),(0:Int)) x.1 (toN x.2.2.1)).2.2)).bind fun r29 =>
 (Z6n (r29.1,(getAt ((0:Int),(0:Int),(0:Int)) x.1 (toN x.2.2.1)).1)).bind fun r30 =>
 (Z7l (r29,(getAt ((0:Int),(0:Int),(0:Int)) x.1 (toN x.2.2.1)).1,r30.2.2)).bind fun r31 =>
 some (.inl (x.1,x.2.1,(IntKind.wrap .i64 (x.2.2.1+(1:Int))),r31,x.2.2.2.2.1,x.2.2.2.2.2.1,x.2.2.2.2.2.2.1,x.2.2.2.2.2.2.2.1,x.2.2.2.2.2.2.2.2))
 else
 none
 else
 some (.inr (x.2.2.2.1,x.2.2.2.2.2.1,x.2.2.2.2.2.2.1,x.2.2.2.2.2.2.2.1,x.2.2.2.2.2.2.2.2))
def Zji:Ctx:={ tb:=mkTb T2.tbl,fx:=[(221,[],Z147),(220,[],Z14t),(53,[],Z14w),(52,[],Z154),(132,[],Z14s),(55,[],Z14o),(51,[],Z155)],sum:=[],nt:=69,pin:=0,nr:=true,ys:=[] }
theorem Zdm:CSound Tryz.prog ⟨69,0,true⟩ (.loop (loopOf 8 Tryz.f187)) (Yat Zpq Znr (loop Zdl)) :=
 Y89 (C:=Zji) (ctxOK mixed tbl_ok rfl ⟨Z5q,Z6y,Z74,Z7k,Z6w,Z6o,Z7m,trivial⟩ trivial) (SumOK.of trivial) Zpq Znr rfl rfl Zdl (fun x=>by kernel_rfl)
abbrev Ztm:Shape:={ sl:=sl_42,bl:=[],ts:=ts_18,pin:=0 }
abbrev Zz3:Shape:={ sl:=sl_39,bl:=[],ts:=[y46],pin:=0 }
def Z6f (x:T69):Option (T63) :=
 bif (inb x.2.2.2.1 (List.length x.1.1.2.2.2.2.1)) then
 (Z5p ((getAt ((0:Int),(0:Int),([]:List T7)) x.1.1.2.2.2.2.1 (toN x.2.2.2.1)),x.2.1)).bind fun r23 =>
 bif (Bool.not r23.2.2) then
 some ((x.1.1.1,x.1.1.2.1,x.1.1.2.2.1,x.1.1.2.2.2.1,x.1.1.2.2.2.2.1,x.1.1.2.2.2.2.2.1,(3:Int)),x.1.2)
 else
 (Z6x (x.1,x.2.2.2.1,r23.1)).bind fun r24 =>
 (Z73 (x.2.1,(14:Int),x.2.2.2.1)).bind fun r25 =>
 (Z7j (r24,r25)).bind fun r26 =>
 (Z6v (r26,x.2.1)).bind fun r27 =>
 (loop Zdl (r23.2.1,(((List.length r23.2.1):Nat):Int),(0:Int),r27,x.2.2,(0:Int),(0:Int),(0:Int),(0:Int),(0:Int))).bind fun r28 =>
 some r28.1
 else
 none
abbrev Z14k:=Spec.shp Ztm Zz3 Z6f
def Zjh:Ctx:={ tb:=mkTb T2.tbl,fx:=[(221,[],Z147),(220,[],Z14t),(53,[],Z14w),(52,[],Z154),(132,[],Z14s),(55,[],Z14o),(51,[],Z155)],sum:=[(0,8,Yat Zpq Znr (loop Zdl))],nt:=69,pin:=0,nr:=true,ys:=[] }
theorem Z6g:Sound Tryz.prog 187 (Z14k) :=
 Sound.shp (C:=Zjh) (fn:=Tryz.f187) (by kernel_rfl) (c:=bodyOf Tryz.f187) (by kernel_rfl) (by decide) (ctxOK mixed tbl_ok rfl ⟨Z5q,Z6y,Z74,Z7k,Z6w,Z6o,Z7m,trivial⟩ trivial) (SumOK.of ⟨(Yav (d:=.loop (loopOf 8 Tryz.f187)) (by kernel_rfl) Zdm),trivial⟩) (by kernel_rfl) Ztm Zz3 rfl (by decide) (by decide) rfl (by decide) rfl Z6f (fun x=>by kernel_rfl)
abbrev Zu4:Shape:={ sl:=sl_42,bl:=[],ts:=ts_18,pin:=0 }
abbrev Zzl:Shape:={ sl:=sl_39,bl:=[],ts:=[y46],pin:=0 }
def Z7f (x:T69):Option (T63) :=
 bif (x.2.2.1 == (5:Int)) then
 (Z7h (x.1,x.2.1,x.2.2)).bind fun r22 =>
 some r22
 else
 bif (x.2.2.1 == (6:Int)) then
 (Z6h (x.1,x.2.1,x.2.2)).bind fun r22 =>
 some r22
 else
 bif (x.2.2.1 == (7:Int)) then
 (Z6b (x.1,x.2.1,x.2.2)).bind fun r22 =>
 some r22
 else
 (Z6f (x.1,x.2.1,x.2.2)).bind fun r22 =>
 some r22
abbrev Z152:=Spec.shp Zu4 Zzl Z7f
def Zk9:Ctx:={ tb:=mkTb T2.tbl,fx:=[(184,[],Z153),(185,[],Z14l),(186,[],Z14i),(187,[],Z14k)],sum:=[],nt:=32,pin:=0,nr:=true,ys:=[] }
theorem Z7g:Sound Tryz.prog 136 (Z152) :=
 Sound.shp (C:=Zk9) (fn:=Tryz.f136) (by kernel_rfl) (c:=bodyOf Tryz.f136) (by kernel_rfl) (by decide) (ctxOK mixed tbl_ok rfl ⟨Z7i,Z6i,Z6c,Z6g,trivial⟩ trivial) (SumOK.of trivial) (by kernel_rfl) Zu4 Zzl rfl (by decide) (by decide) rfl (by decide) rfl Z7f (fun x=>by kernel_rfl)
abbrev Zti:Shape:={ sl:=sl_42,bl:=[],ts:=ts_18,pin:=0 }
abbrev Zyz:Shape:={ sl:=sl_39,bl:=[],ts:=[y46],pin:=0 }
def Z67 (x:T69):Option (T63) :=
 bif ((((List.length x.1.1.2.1):Nat):Int) == (8:Int)) then
 some ((x.1.1.1,x.1.1.2.1,x.1.1.2.2.1,x.1.1.2.2.2.1,x.1.1.2.2.2.2.1,x.1.1.2.2.2.2.2.1,(4:Int)),x.1.2)
 else
 (Z73 (x.2.1,(1:Int),(((List.length x.1.1.2.1):Nat):Int))).bind fun r22 =>
 (Z7j (x.1,r22)).bind fun r23 =>
 (Z7j (r23,(((List.length x.1.1.2.1):Nat):Int),(0:Int),(0:Int),(0:Int),x.1.1.2.2.2.2.2.1)).bind fun r24 =>
 bif (fits ((List.length ([]:List T17))+(List.length r24.1.2.1))) then
 bif (fits ((List.length (([]:List T17)++r24.1.2.1))+(List.length ((x.2.2.2.1,(0:Int),(0:Int),false) :: ([]:List T17))))) then
 (Z7l (((r24.1.1,((([]:List T17)++r24.1.2.1)++((x.2.2.2.1,(0:Int),(0:Int),false) :: ([]:List T17))),r24.1.2.2),r24.2),(((List.length x.1.1.2.1):Nat):Int),(0:Int))).bind fun r25 =>
 (Z6v (r25,x.2.1)).bind fun r26 =>
 some r26
 else
 none
 else
 none
abbrev Z14g:=Spec.shp Zti Zyz Z67
def Zjc:Ctx:={ tb:=mkTb T2.tbl,fx:=[(53,[],Z14w),(52,[],Z154),(51,[2000000],Z155),(132,[],Z14s)],sum:=[],nt:=51,pin:=0,nr:=true,ys:=[] }
theorem Z68:Sound Tryz.prog 137 (Z14g) :=
 Sound.shp (C:=Zjc) (fn:=Tryz.f137) (by kernel_rfl) (c:=bodyOf Tryz.f137) (by kernel_rfl) (by decide) (ctxOK mixed tbl_ok rfl ⟨Z74,Z7k,Z7m,Z6w,trivial⟩ trivial) (SumOK.of trivial) (by kernel_rfl) Zti Zyz rfl (by decide) (by decide) rfl (by decide) rfl Z67 (fun x=>by kernel_rfl)
abbrev Ztr:Shape:={ sl:=sl_42,bl:=[],ts:=ts_18,pin:=0 }
abbrev Zz8:Shape:={ sl:=sl_39,bl:=[],ts:=[y46],pin:=0 }
def Z6p (x:T69):Option (T63) :=
 bif (x.2.2.1 == (12:Int)) then
 (Z7l (x.1,x.2.1,x.2.2.2.1)).bind fun r22 =>
 some r22
 else
 bif (inb x.2.1 (List.length x.1.1.2.1)) then
 bif (getAt ((0:Int),(0:Int),(0:Int),false) x.1.1.2.1 (toN x.2.1)).2.2.2 then
 (Z7l (x.1,x.2.1,x.2.2.2.1)).bind fun r22 =>
 some r22
 else
 (Z6v (x.1,x.2.1)).bind fun r22 =>
 some r22
 else
 none
abbrev Z14p:=Spec.shp Ztr Zz8 Z6p
def Zjp:Ctx:={ tb:=mkTb T2.tbl,fx:=[(51,[],Z155),(132,[],Z14s)],sum:=[],nt:=27,pin:=0,nr:=true,ys:=[] }
theorem Z6q:Sound Tryz.prog 138 (Z14p) :=
 Sound.shp (C:=Zjp) (fn:=Tryz.f138) (by kernel_rfl) (c:=bodyOf Tryz.f138) (by kernel_rfl) (by decide) (ctxOK mixed tbl_ok rfl ⟨Z7m,Z6w,trivial⟩ trivial) (SumOK.of trivial) (by kernel_rfl) Ztr Zz8 rfl (by decide) (by decide) rfl (by decide) rfl Z6p (fun x=>by kernel_rfl)
abbrev Zth:Shape:={ sl:=[(0,(.hole y46)),(1,(.hole y4))],bl:=[],ts:=[y46,y4],pin:=0 }
abbrev Zyy:Shape:={ sl:=sl_39,bl:=[],ts:=[y46],pin:=0 }
def Z65 (x:(T63 × (Int × Int))):Option (T63) :=
 (Z6n (x.1.1,x.2.1)).bind fun r20 =>
 bif (r20.1 == (0:Int)) then
 (Z6v (x.1,x.2.1)).bind fun r21 =>
 some r21
 else
 bif (decide (r20.1 ≤ (2:Int))) then
 (Z6z (x.1,x.2.1,r20)).bind fun r21 =>
 some r21
 else
 bif (r20.1 == (3:Int)) then
 (Z7b (x.1,x.2.1,r20)).bind fun r21 =>
 some r21
 else
 bif (r20.1 == (4:Int)) then
 (Z77 (x.1,x.2.1,x.2.2,r20)).bind fun r21 =>
 some r21
 else
 bif (decide (r20.1 ≤ (8:Int))) then
 (Z7f (x.1,x.2.1,r20)).bind fun r21 =>
 some r21
 else
 bif (r20.1 == (9:Int)) then
 (Z67 (x.1,x.2.1,r20)).bind fun r21 =>
 some r21
 else
 bif (decide (r20.1 ≤ (11:Int))) then
 (Z73 (x.2.1,(IntKind.wrap .i64 (r20.1+(6:Int))),r20.2.1)).bind fun r21 =>
 (Z7j (x.1,r21)).bind fun r22 =>
 (Z6v (r22,x.2.1)).bind fun r23 =>
 some r23
 else
 (Z6p (x.1,x.2.1,r20)).bind fun r21 =>
 some r21
abbrev Z14f:=Spec.shp Zth Zyy Z65
def Zjb:Ctx:={ tb:=mkTb T2.tbl,fx:=[(55,[],Z14o),(132,[],Z14s),(133,[],Z14u),(134,[],Z150),(135,[],Z14y),(136,[],Z152),(137,[],Z14g),(53,[],Z14w),(52,[],Z154),(138,[],Z14p)],sum:=[],nt:=81,pin:=0,nr:=true,ys:=[] }
theorem Z66:Sound Tryz.prog 79 (Z14f) :=
 Sound.shp (C:=Zjb) (fn:=Tryz.f79) (by kernel_rfl) (c:=bodyOf Tryz.f79) (by kernel_rfl) (by decide) (ctxOK mixed tbl_ok rfl ⟨Z6o,Z6w,Z70,Z7c,Z78,Z7g,Z68,Z74,Z7k,Z6q,trivial⟩ trivial) (SumOK.of trivial) (by kernel_rfl) Zth Zyy rfl (by decide) (by decide) rfl (by decide) rfl Z65 (fun x=>by kernel_rfl)
abbrev Ztg:Shape:={ sl:=[(0,(.hole y45)),(1,(.hole y4))],bl:=[],ts:=[y45,y4],pin:=0 }
abbrev Zyx:Shape:={ sl:=[(0,(.hole y45)),(1,(.hole y27))],bl:=[],ts:=[y45,y27],pin:=0 }
def Z63 (x:((T47 × T61) × (Int × Int))):Option T63 :=
 (Z65 ((x.1,([]:List T20)),x.2)).bind fun r19 =>
 (Z7d r19.1).bind fun r20 =>
 some (r20,r19.2)
abbrev Z14e:=Spec.shp Ztg Zyx Z63
def Zja:Ctx:={ tb:=mkTb T2.tbl,fx:=[(79,[],Z14f),(54,[],Z151)],sum:=[],nt:=16,pin:=0,nr:=true,ys:=[] }
theorem Z64:Sound Tryz.prog 25 (Z14e) :=
 Sound.shp (C:=Zja) (fn:=Tryz.f25) (by kernel_rfl) (c:=bodyOf Tryz.f25) (by kernel_rfl) (by decide) (ctxOK mixed tbl_ok rfl ⟨Z66,Z7e,trivial⟩ trivial) (SumOK.of trivial) (by kernel_rfl) Ztg Zyx rfl (by decide) (by decide) rfl (by decide) rfl Z63 (fun x=>by kernel_rfl)
abbrev Zos:Shape:={ sl:=[(5,(.ptr 0 [])),(7,(.ptr 1 [])),(10,(.ptr 2 [])),(79,(.hole y0)),(80,(.hole (.int .i64))),(81,(.hole (.int .i64)))],bl:=bl_25,ts:=[y0,(.int .i64),(.int .i64),y4,y45,y45],pin:=0 }
abbrev Zmt:List (ETag × Shape):=[(.ret,{ sl:=[(6,(.hole .bool))],bl:=[],ts:=ts_1,pin:=0 }),(.exit 0,{ sl:=[],bl:=[],ts:=[],pin:=0 })]
def Zbp (x:(List Int × Int × Int × (Int × Int) × (T47 × T61) × (T47 × T61))):Option ((List Int × Int × Int × (Int × Int) × (T47 × T61) × (T47 × T61)) ⊕ ((Bool) ⊕ Unit)) :=
 bif (decide (x.2.2.1 < x.2.1)) then
 bif (inb x.2.2.1 (List.length x.1)) then
 (Z5t x.2.2.2.2.2).bind fun r9 =>
 (Z16 x.2.2.2.2.1).bind fun r10 =>
 (Z5z (r10,r9)).bind fun r11 =>
 bif (Bool.not r11) then
 some (.inr (.inl false))
 else
 (loop Zbr ((getAt (0:Int) x.1 (toN x.2.2.1)),r9,false,x.1,x.2.1,x.2.2.1,r9,(((List.length r9):Nat):Int),(0:Int),x.2.2.2.1,x.2.2.2.2.1,x.2.2.2.2.2)).bind fun r12 =>
 (Z1a (r12.2.2.2.2.2.2.2.1,r12.2.2.2.2.2.2.1)).bind fun r13 =>
 bif (Bool.not r12.2.2.1) then
 bif (r13.2.2 != (4:Int)) then
 some (.inr (.inl false))
 else
 bif ((((List.length r13.2.1):Nat):Int) != (0:Int)) then
 some (.inr (.inl false))
 else
 (Z61 (r13.1,(([]:List Int),(0:Int),(0:Int),(0:Int),([]:List T21),([]:List (List T7))),([]:List T17),([]:List (Int × T41)),([]:List T22),([]:List (Int × T14)),(0:Int),(0:Int))).bind fun r14 =>
 bif (Bool.not r14) then
 some (.inr (.inl false))
 else
 bif ((((List.length r12.2.1):Nat):Int) == (0:Int)) then
 some (.inr (.inl true))
 else
 (Z3x (r12.2.1,r12.1)).bind fun r15 =>
 (Z1a (r12.2.2.2.2.2.2.2.1,r15)).bind fun r16 =>
 (Z3x (r12.2.1,r12.1)).bind fun r17 =>
 (Z63 (r12.2.2.2.2.2.2.2.2,r17)).bind fun r18 =>
 bif (r16.2.2 != (0:Int)) then
 some (.inr (.inl false))
 else
 (Z61 (r16.1,r18.1)).bind fun r19 =>
 bif (Bool.not r19) then
 some (.inr (.inl false))
 else
 (Z5v (r16.2.1,r18.2)).bind fun r20 =>
 bif (Bool.not r20) then
 some (.inr (.inl false))
 else
 some (.inl (r12.2.2.2.1,r12.2.2.2.2.1,(IntKind.wrap .i64 (r12.2.2.2.2.2.1+(1:Int))),r12.2.2.2.2.2.2.1,r16.1,r18.1))
 else
 bif ((((List.length r12.2.1):Nat):Int) == (0:Int)) then
 some (.inr (.inl true))
 else
 (Z3x (r12.2.1,r12.1)).bind fun r14 =>
 (Z1a (r12.2.2.2.2.2.2.2.1,r14)).bind fun r15 =>
 (Z3x (r12.2.1,r12.1)).bind fun r16 =>
 (Z63 (r12.2.2.2.2.2.2.2.2,r16)).bind fun r17 =>
 bif (r15.2.2 != (0:Int)) then
 some (.inr (.inl false))
 else
 (Z61 (r15.1,r17.1)).bind fun r18 =>
 bif (Bool.not r18) then
 some (.inr (.inl false))
 else
 (Z5v (r15.2.1,r17.2)).bind fun r19 =>
 bif (Bool.not r19) then
 some (.inr (.inl false))
 else
 some (.inl (r12.2.2.2.1,r12.2.2.2.2.1,(IntKind.wrap .i64 (r12.2.2.2.2.2.1+(1:Int))),r12.2.2.2.2.2.2.1,r15.1,r17.1))
 else
 none
 else
 some (.inr (.inr ()))
def Zh7:Ctx:={ tb:=mkTb T2.tbl,fx:=[(13,[],Z139),(14,[],Z11z),(15,[],Z13k),(16,[],Z138),(17,[],Z14d),(18,[],Z14b),(19,[],Z14a),(20,[],Z149),(22,[],Z11y),(21,[],Z14c),(23,[],Z120),(24,[],Z13b),(25,[],Z14e)],sum:=[(0,17,Yat Zot Zmu (loop Zbr))],nt:=166,pin:=0,nr:=true,ys:=[] }
theorem Zbq:CSound Tryz.prog ⟨166,0,true⟩ (.loop (loopOf 10 Tryz.f3)) (Yat Zos Zmt (loop Zbp)) :=
 Y89 (C:=Zh7) (ctxOK mixed tbl_ok rfl ⟨Z3u,Z19,Z4g,Z3s,Z62,Z5y,Z5w,Z5u,Z17,Z60,Z1b,Z3y,Z64,trivial⟩ trivial) (SumOK.of ⟨(Yav (d:=.loop (loopOf 17 Tryz.f3)) (by kernel_rfl) Zbs),trivial⟩) Zos Zmt rfl rfl Zbp (fun x=>by kernel_rfl)
def F_plaitlaw12_MachineSteps (x:(T47 × List Int × (Int × Int))):Option (Bool) :=
 (Z3t x.1).bind fun r1 =>
 (Z18 r1).bind fun r2 =>
 (Z4f r1).bind fun r3 =>
 bif (Bool.not r3) then
 (Z3r ()).bind fun r4 =>
 bif r4 then
 bif (r2.2.2 == (1:Int)) then
 bif ((((List.length r2.2.1):Nat):Int) == (0:Int)) then
 (Z61 (r2.1,(([]:List Int),(0:Int),(0:Int),(0:Int),([]:List T21),([]:List (List T7))),([]:List T17),([]:List (Int × T41)),([]:List T22),([]:List (Int × T14)),(0:Int),(0:Int))).bind fun r5 =>
 some r5
 else
 some false
 else
 some false
 else
 some false
 else
 (Z5x r1).bind fun r4 =>
 bif (r2.2.2 != (0:Int)) then
 some false
 else
 (Z61 (r2.1,r4.1)).bind fun r5 =>
 bif (Bool.not r5) then
 some false
 else
 (Z5v (r2.2.1,r4.2)).bind fun r6 =>
 bif (Bool.not r6) then
 some false
 else
 (Z3r ()).bind fun r7 =>
 bif (Bool.not r7) then
 some false
 else
 bif (sub3 (0:Int) (Min.min (((List.length x.2.1):Nat):Int) (60:Int)) (List.length x.2.1)) then
 (loop Zbp ((cut x.2.1 (toN (0:Int)) ((toN (Min.min (((List.length x.2.1):Nat):Int) (60:Int))) - (toN (0:Int)))),(((List.length (cut x.2.1 (toN (0:Int)) ((toN (Min.min (((List.length x.2.1):Nat):Int) (60:Int))) - (toN (0:Int))))):Nat):Int),(0:Int),x.2.2,r2.1,r4.1)).bind fun r8 =>
 match r8 with
 | .inl y9 =>
 some y9
 | .inr y9 =>
 some true
 else
 none
def Zh6:Ctx:={ tb:=mkTb T2.tbl,fx:=[(13,[],Z139),(14,[],Z11z),(15,[],Z13k),(16,[],Z138),(17,[],Z14d),(18,[],Z14b),(19,[],Z14a),(20,[],Z149),(22,[],Z11y),(21,[],Z14c),(23,[],Z120),(24,[],Z13b),(25,[],Z14e)],sum:=[(0,17,Yat Zot Zmu (loop Zbr)),(0,10,Yat Zos Zmt (loop Zbp))],nt:=166,pin:=0,nr:=true,ys:=[] }
theorem F_plaitlaw12_MachineSteps_ok:Sound Tryz.prog 3 (Spec.pure [y39,y0,y4] [.bool] F_plaitlaw12_MachineSteps) :=
 Sound.pure (C:=Zh6) (fn:=Tryz.f3) (by kernel_rfl) (c:=bodyOf Tryz.f3) (by kernel_rfl) (by decide) (ctxOK mixed tbl_ok rfl ⟨Z3u,Z19,Z4g,Z3s,Z62,Z5y,Z5w,Z5u,Z17,Z60,Z1b,Z3y,Z64,trivial⟩) (SumOK.of ⟨(Yav (d:=.loop (loopOf 17 Tryz.f3)) (by kernel_rfl) Zbs),(Yav (d:=.loop (loopOf 10 Tryz.f3)) (by kernel_rfl) Zbq),trivial⟩) (by kernel_rfl) rfl _ _ (by decide) _ (fun x=>by kernel_rfl)
end
end Go.Proofs.YthdlpkdojipfhaaGreat.VX.VxM_M
set_option linter.unusedVariables false
set_option maxRecDepth 100000
namespace Go.Proofs.YthdlpkdojipfhaaGreat.VX.VxM_M
open Go.Proofs Go.Proofs.YthdlpkdojipfhaaGreat.VX.T2
noncomputable section
end
end Go.Proofs.YthdlpkdojipfhaaGreat.VX.VxM_M

