/- Laid for the law RunWidths. -/
import Derived.Test.YthdlpkdojipfhaaGreatRunWidthsE6
import Derived.MapKept
import Derived.WideKeyEntry
set_option linter.unusedVariables false
set_option linter.unusedSimpArgs false
namespace Go.Proofs.YthdlpkdojipfhaaGreat.VX
section
variable {P:Program} {C:Ctx} {X:Nat→Prop} {R:Type} {o:Oper} {a:Act} {w:World} {g:G} {m:Mem} {k kp:AV→Mem→Nat→Option R} {r:R} {fr:Fr}
theorem Y9v {x:Operand} (ho:o.op=.nilCheck x) (hI:Inv g X m w) (hf:FrOK g w (okB X g m) fr a.tmps) (h:(match ev fr x with
  | .ptr τ p=>k (.ptr τ p) m g.n
  | .pv t x=>k (.pv t x) m g.n
  | .ifc t v=>k (.ifc t v) m g.n
  | .fn f a b=>k (.fn f a b) m g.n
  | _=>none)=some r):OpR P X o a w g m k kp r:=by
 have hx:=ev_ok hf x
 generalize ev fr x=v at *
 cases v with
 | ptr τ p =>
  refine OpR.value (cv:=a.eval x) ?_ h hI hx (Ext.refl _ _ _)
  obtain ⟨_,_,e⟩:=Ybd hx
  unfold execOp; simp [ho,e]
 | pv t y =>
  refine OpR.value (cv:=a.eval x) ?_ h hI hx (Ext.refl _ _ _)
  obtain ⟨ad,cells,e,_⟩:=hx.2 rfl
  have e:=(List.cons.inj e).1
  unfold execOp; simp [ho,e]
 | ifc t v =>
  refine OpR.value (cv:=a.eval x) ?_ h hI hx (Ext.refl _ _ _)
  obtain ⟨cv,e,_⟩:=hx.2 rfl
  have e:=(List.cons.inj e).1
  unfold execOp; simp [ho,e]
 | fn f u v =>
  refine OpR.value (cv:=a.eval x) ?_ h hI hx (Ext.refl _ _ _)
  obtain ⟨fs,ks,_,_,e⟩:=hx.2 rfl
  have e:=(List.cons.inj e).1
  unfold execOp; simp [ho,e]
 | _=>cases h
theorem Yan {ok:Nat→Prop} {u v:AV} {cu cv:Value} (h1:RV g w ok u cu) (h2:RV g w ok v cv):RV g w ok (pairAV u v) (.tuple #[cu,cv]) :=
 ⟨fun h=>(by cases h),fun _=>⟨[cu,cv],⟨cu,[cv],rfl,h1,cv,[],rfl,h2,rfl⟩,rfl⟩⟩
theorem Y8p {t:TypeId} {i:TI} {x:Operand} (ho:o.op=.makeInterface t x) (hi:TIok P t i) (hI:Inv g X m w) (hf:FrOK g w (okB X g m) fr a.tmps)
  (h:(bif i.notI && (ev fr x).sto then k (.ifc t (ev fr x)) m g.n else none)=some r):OpR P X o a w g m k kp r:=by
 obtain ⟨h1,h2⟩:=Y1w h
 rw [Bool.and_eq_true] at h1
 obtain ⟨d,hd,hni⟩:=hi.notI h1.1
 have hx:=ev_ok hf x
 refine OpR.value (cv:=.iface t (a.eval x)) ?_ h2 hI ⟨fun h=>(by cases h),fun _=>⟨_,rfl,hx.1,hx.2⟩⟩ (Ext.refl _ _ _)
 unfold execOp
 simp only [ho,Instr.makeInterface,Sem.run_bind,run_underlying hd,Result.andThen_ok]
 cases d <;> first | exact absurd rfl (hni _) | simp
theorem Yfl {t s:TypeId} {i:TI} {x:Operand} {ok:Bool} (ho:o.op=.typeAssert x s t ok) (hi:TIok P t i) (hI:Inv g X m w) (hf:FrOK g w (okB X g m) fr a.tmps)
  (h:(match ev fr x with
   | .ifc t' v=>bif i.notI && Nat.beq t' t then (bif ok then k (pairAV v (.d .bool true)) m g.n else k v m g.n) else none
   | .nili=>bif i.notI && ok then k (pairAV i.zero (.d .bool false)) m g.n else none
   | _=>none)=some r):OpR P X o a w g m k kp r:=by
 have hx:=ev_ok hf x
 generalize ev fr x=v at *
 cases v with
 | ifc t' v =>
  obtain ⟨h1,h2⟩:=Y1w h
  rw [Bool.and_eq_true] at h1
  obtain ⟨d,hd,hni⟩:=hi.notI h1.1
  have ht:=Nat.eq_of_beq_eq_true h1.2
  subst ht
  obtain ⟨cv,e,q1,q2⟩:=hx.2 rfl
  have e:=(List.cons.inj e).1
  have hv:RV g w (okB X g m) v cv:=⟨q1,q2⟩
  cases ok with
  | true =>
   refine OpR.value (cv:=.tuple #[cv,.bool true]) ?_ h2 hI (Yan hv (Y29 _)) (Ext.refl _ _ _)
   unfold execOp
   simp only [ho,Instr.typeAssert,Sem.run_bind,run_underlying hd,Result.andThen_ok,e]
   cases d <;> first | exact absurd rfl (hni _) | simp
  | false =>
   refine OpR.value (cv:=cv) ?_ h2 hI hv (Ext.refl _ _ _)
   unfold execOp
   simp only [ho,Instr.typeAssert,Sem.run_bind,run_underlying hd,Result.andThen_ok,e]
   cases d <;> first | exact absurd rfl (hni _) | simp
 | nili =>
  obtain ⟨h1,h2⟩:=Y1w h
  rw [Bool.and_eq_true] at h1
  obtain ⟨d,hd,hni⟩:=hi.notI h1.1
  obtain ⟨f,z,z1,z2,z3,z4,z5,z6⟩:=hi.info
  have hok:ok=true:=h1.2
  subst hok
  have e:=(List.cons.inj (hx.2 rfl)).1
  refine OpR.value (cv:=.tuple #[z,.bool false]) ?_ h2 hI (Yan (z6 _ _ _) (Y29 _)) (Ext.refl _ _ _)
  have hz:(zeroValue t).run P w=.ok z w:=by simp [zeroValue,typeInfo,z1,z3]
  unfold execOp
  simp only [ho,Instr.typeAssert,Sem.run_bind,run_underlying hd,Result.andThen_ok,e]
  cases d <;> first | exact absurd rfl (hni _) | simp [hz]
 | _=>cases h
theorem Yao {x:Operand} (ho:o.op=.panic x) (hI:Inv g X m w) (hf:FrOK g w (okB X g m) fr a.tmps) (h:(match ev fr x with
  | .ifc t v=>kp (.ifc t v) m g.n
  | _=>none)=some r):OpR P X o a w g m k kp r:=by
 have hx:=ev_ok hf x
 generalize ev fr x=v at *
 cases v with
 | ifc t v =>
  have hx':=hx
  obtain ⟨cv,e,_⟩:=hx.2 rfl
  have e:=(List.cons.inj e).1
  intro rd next Q hn hp
  refine ⟨fun _ _=>trivial,?_⟩
  have hs:o.semAt rd a.eval=execOp a.eval o:=Oper.semAt_eq rd _ o (fun c h=>by rw [ho] at h; cases h)
  have hr:(execOp a.eval o).run P w=.halt (.panic (.iface t cv)) w:=by
   unfold execOp; simp [ho,e,Instr.panic,goPanic,Sem.run_bind,Sem.run]
  rw [show (FR rd).round=rd from rfl,hs,hr]
  exact hp _ m g _ w h hI (by rw [← e]; exact hx') (Ext.refl _ _ _)
 | _=>cases h
theorem Y3q (hI:Inv g X m w) {v:AV} {t:Ty} {x:t.T} (h:v.data m t=some x) {cv:Value} (hv:RV g w (okB X g m) v cv):DV t x cv :=
 ⟨g,w,okB X g m,Y3u (fun τ=>hI.ok τ) h (Y3p h) hv⟩
theorem Y9h (hI:Inv g X m w) {kt vt:Ty} {v:AV} {τ:Nat} {l:List (kt.T × vt.T)} (h:mpFor m kt vt v=some (τ,l)) {cv:Value} (hv:RV g w (okB X g m) v cv) :
  mget τ m=.mp kt vt l∧g.dom τ∧cv=.map (some (g.loc τ).blk):=by
 cases v with
 | mp σ =>
  simp only [mpFor] at h
  split at h
  ·rename_i k' v' l' hm
   split at h
   ·rename_i l2 hc
    cases h
    obtain ⟨e,he⟩:=Y3l hc
    cases e
    have he:l=l':=he
    subst he
    obtain ⟨h1,h2⟩:=hv.2 rfl
    exact ⟨hm,h1,(List.cons.inj h2).1⟩
   ·cases h
  ·cases h
 | _=>cases h
theorem Yg9 {vt:TypeId} {fi:TypeInfo} {ez:Value} (h1:P.info? vt=some fi) (h2:fi.zero=some ez) (w:World):(zeroValue vt).run P w=.ok ez w:=by simp [zeroValue,typeInfo,h1,h2]
theorem Yh {g g':G} {w:World} {ok:Nat→Prop} {t:Ty} {x:t.T} {cv:Value} (h:RV g w ok (.d t x) cv):RV g' w ok (.d t x) cv :=
 ⟨fun e=>let ⟨ds,e1,e2⟩:=h.1 e; ⟨ds,e1,e2⟩,fun e=>h.2 e⟩
theorem Y5n (hI:Inv g X m w) {v:AV} {τ:Nat} {ks:List Int} {vs:AV} (h:fmFor m v=some (τ,ks,vs)) {cv:Value} (hv:RV g w (okB X g m) v cv) :
  mget τ m=.fm ks vs∧g.dom τ∧cv=.map (some (g.loc τ).blk):=by
 cases v with
 | mp σ =>
  simp only [fmFor] at h
  split at h
  ·rename_i ks' vs' hm
   cases h
   obtain ⟨h1,h2⟩:=hv.2 rfl
   exact ⟨hm,h1,(List.cons.inj h2).1⟩
  ·cases h
 | _=>cases h
def fmL (ks:List Int):List ((Ty.int .i64).T × Ty.bool.T):=ks.map fun n=>((n:(Ty.int .i64).T),(false:Ty.bool.T))
theorem Y5p:∀ ks:List Int,(fmL ks).length=ks.length
 | []=>rfl
 | a :: ks=>congrArg (·+1) (Y5p ks)
theorem Y5o:∀ (ks:List Int) (j:Nat) (p:(Ty.int .i64).T × Ty.bool.T),(fmL ks)[j]?=some p→∃ n:Int,ks[j]?=some n∧p.1=n
 | [],j,p,h=>by cases h
 | a :: ks,0,p,h=>by cases h; exact ⟨a,rfl,rfl⟩
 | a :: ks,j+1,p,h=>Y5o ks j p h
theorem Y5r {R:Type} {ok:Nat→Prop} {n:Int} {z:Option R} {k:AV→Option R} {r:R}:∀ (ks:List Int) (vs:AV) (cvs:List Value) (k0:Nat),RL g w ok vs cvs→fmSel n z k ks vs=some r →
  (∃ j v cv,mIdx (Ty.int .i64).beq n (fmL ks) k0=some (k0+j)∧cvs[j]?=some cv∧RV g w ok v cv∧k v=some r) ∨ (mIdx (Ty.int .i64).beq n (fmL ks) k0=none∧z=some r)
 | [],_,_,_,_,h=>.inr ⟨rfl,h⟩
 | a :: ks,.cons v vs,cvs,k0,hR,h=>by
  obtain ⟨cv,l',e,hv,hR'⟩:=hR
  simp only [fmSel] at h
  have hm:mIdx (Ty.int .i64).beq n (fmL (a :: ks)) k0=bif eqI n a then some k0 else mIdx (Ty.int .i64).beq n (fmL ks) (k0+1):=rfl
  rw [hm]
  cases hb:eqI n a with
  | true =>
   rw [hb,cond_true] at h
   exact .inl ⟨0,v,cv,rfl,by rw [e]; rfl,hv,h⟩
  | false =>
   rw [hb,cond_false] at h
   rcases Y5r ks vs l' (k0+1) hR' h with ⟨j,v',cv',h1,h2,h3,h4⟩ | ⟨h1,h2⟩
   ·exact .inl ⟨j+1,v',cv',by rw [cond_false,h1]; congr 1; omega,by rw [e]; exact h2,h3,h4⟩
   ·exact .inr ⟨by rw [cond_false]; exact h1,h2⟩
 | _ :: _,.d _ _,_,_,_,h=>by cases h
 | _ :: _,.pr _ _,_,_,_,h=>by cases h
 | _ :: _,.one _,_,_,_,h=>by cases h
 | _ :: _,.nl,_,_,_,h=>by cases h
 | _ :: _,.sl _,_,_,_,h=>by cases h
 | _ :: _,.vw _ _ _ _,_,_,_,h=>by cases h
 | _ :: _,.ptr _ _,_,_,_,h=>by cases h
 | _ :: _,.nilp,_,_,_,h=>by cases h
 | _ :: _,.pv _ _,_,_,_,h=>by cases h
 | _ :: _,.mp _,_,_,_,h=>by cases h
 | _ :: _,.nilm,_,_,_,h=>by cases h
 | _ :: _,.fn _ _ _,_,_,_,h=>by cases h
 | _ :: _,.nilf,_,_,_,h=>by cases h
 | _ :: _,.ifc _ _,_,_,_,h=>by cases h
 | _ :: _,.yl _,_,_,_,h=>by cases h
 | _ :: _,.nili,_,_,_,h=>by cases h
 | _ :: _,.tu _,_,_,_,h=>by cases h
 | _ :: _,.nil,_,_,_,h=>by cases h
 | _ :: _,.dead,_,_,_,h=>by cases h
theorem Y85 {t:TypeId} {i:TI} {x ix:Operand} {ok:Bool} (ho:o.op=.lookup t x ix ok) (hi:TIok P t i) (hI:Inv g X m w) (hf:FrOK g w (okB X g m) fr a.tmps)
  (h:(bif Nat.beq i.kind 6 && i.fmk then match (ev fr ix).data m (.int .i64),fmFor m (ev fr x) with
   | some n,some (_,ks,vs)=>fmSel n (bif ok then k (pairAV .nilf (.d .bool false)) m g.n else k .nilf m g.n) (fun v=>bif ok then k (pairAV v (.d .bool true)) m g.n else k v m g.n) ks vs
   | _,_=>none else none)=some r):OpR P X o a w g m k kp r:=by
 obtain ⟨h1,h⟩:=Y1w h
 rw [Bool.and_eq_true] at h1
 obtain ⟨kt,vt,u1,u2⟩:=hi.map (Nat.eq_of_beq_eq_true h1.1)
 obtain ⟨hK,fi,ez,z1,z2,z3⟩:=u2.2 h1.2
 have hz:=Yg9 z1 z2 w
 have hx:=ev_ok hf x
 have hix:=ev_ok hf ix
 have fin:∀ (y:AV) (b:Bool) (cv:Value),(bif ok then k (pairAV y (.d .bool b)) m g.n else k y m g.n)=some r→RV g w (okB X g m) y cv →
   (Instr.lookup t (a.eval x) (a.eval ix) ok).run P w=.ok (if ok then .tuple #[cv,.bool b] else cv) w→OpR P X o a w g m k kp r:=by
  intro y b cv hk hrv hrun
  cases ok with
  | true=>exact OpR.value (cv:=.tuple #[cv,.bool b]) (by unfold execOp; simp only [if_true] at hrun; simp [ho,hrun]) hk hI (Yan hrv (Y29 _)) (Ext.refl _ _ _)
  | false=>exact OpR.value (cv:=cv) (by unfold execOp; simp only [Bool.false_eq_true,if_false] at hrun; simp [ho,hrun]) hk hI hrv (Ext.refl _ _ _)
 split at h
 ·rename_i n τ ks vs hkey hm
  have hdk:=Y3q hI hkey hix
  obtain ⟨e1,e2,e3⟩:=Y5n hI hm hx
  have hB:=hI.ok τ
  rw [e1] at hB
  obtain ⟨b1,es,cvs,b2,b3,b4,b5,b6⟩:=hB
  have hlen:es.toList.length=(fmL ks).length:=by rw [Y5p,Array.length_toList]; exact b3
  have hfind:=hK.find (vt:=.bool) w n (a.eval ix) (fmL ks) es.toList hdk hlen (fun j e p h1 h2=>by
   obtain ⟨n',hq,hp⟩:=Y5o ks j p h2
   have:=(b4 j e n' (by simpa using h1) hq).2
   rw [this,hp]
   exact ⟨g,w,okB X g m,int_mk _ _⟩)
  rcases Y5r (g:=g) (w:=w) ks vs cvs 0 b5 h with ⟨j,v,cv,q1,q2,q3,q4⟩ | ⟨q1,q2⟩
  ·rw [Nat.zero_add] at q1
   have q1:mIdx (Ty.int .i64).beq n (fmL ks) 0=some j:=q1
   rw [q1,Option.map_some] at hfind
   rw [b6,List.getElem?_map] at q2
   cases hq:es.toList[j]? with
   | none=>rw [hq] at q2; cases q2
   | some e =>
    rw [hq] at q2
    have q2:e.val=cv:=by cases q2; rfl
    have hgd:es.toList.getD j default=e:=by rw [List.getD_eq_getElem?_getD,hq]; rfl
    rw [hgd] at hfind
    refine fin v true cv q4 q3 ?_
    simp [Instr.lookup,run_underlying u1,e3,MapKept.run_getObj_map b2,hK.chk _ _ _ _ hdk,hfind,q2,Result.andThen]
  ·have q1:mIdx (Ty.int .i64).beq n (fmL ks) 0=none:=q1
   rw [q1,Option.map_none] at hfind
   refine fin .nilf false ez q2 (z3 _ _ _) ?_
   simp [Instr.lookup,run_underlying u1,e3,MapKept.run_getObj_map b2,hK.chk _ _ _ _ hdk,hfind,hz,Result.andThen]
 ·cases h
theorem Y86 {t:TypeId} {i:TI} {x ix:Operand} {ok:Bool} (ho:o.op=.lookup t x ix ok) (hi:TIok P t i) (hI:Inv g X m w) (hf:FrOK g w (okB X g m) fr a.tmps)
  (h:(bif Nat.beq i.kind 6 && i.mky then match (ev fr ix).data m i.kty with
   | some key=>match ev fr x with
    | .nilm=>bif ok then k (pairAV (.d i.ety i.ety.zero) (.d .bool false)) m g.n else k (.d i.ety i.ety.zero) m g.n
    | v=>match mpFor m i.kty i.ety v with
     | some (_,l)=>bif ok then k (pairAV (.d i.ety (mlookK key l)) (.d .bool (mhasK key l))) m g.n else k (.d i.ety (mlookK key l)) m g.n
     | none=>none
   | none=>none else bif Nat.beq i.kind 6 && i.fmk then match (ev fr ix).data m (.int .i64),fmFor m (ev fr x) with
   | some n,some (_,ks,vs)=>fmSel n (bif ok then k (pairAV .nilf (.d .bool false)) m g.n else k .nilf m g.n) (fun v=>bif ok then k (pairAV v (.d .bool true)) m g.n else k v m g.n) ks vs
   | _,_=>none else none)=some r):OpR P X o a w g m k kp r:=by
 by_cases h1:(Nat.beq i.kind 6 && i.mky)=true
 case neg=>rw [Bool.of_not_eq_true h1] at h; exact Y85 ho hi hI hf h
 rw [h1,cond_true] at h
 rw [Bool.and_eq_true] at h1
 obtain ⟨kt,vt,u1,u2⟩:=hi.map (Nat.eq_of_beq_eq_true h1.1)
 obtain ⟨hK,fi,ez,z1,z2,z3⟩:=u2.1 h1.2
 have hz:=Yg9 z1 z2 w
 have hx:=ev_ok hf x
 have hix:=ev_ok hf ix
 split at h
 ·rename_i key hkey
  have hdk:=Y3q hI hkey hix
  have fin:∀ (y:i.ety.T) (b:Bool) (cv:Value),(bif ok then k (pairAV (.d i.ety y) (.d .bool b)) m g.n else k (.d i.ety y) m g.n)=some r→RV g w (okB X g m) (.d i.ety y) cv →
    (Instr.lookup t (a.eval x) (a.eval ix) ok).run P w=.ok (if ok then .tuple #[cv,.bool b] else cv) w→OpR P X o a w g m k kp r:=by
   intro y b cv hk hrv hrun
   cases ok with
   | true=>exact OpR.value (cv:=.tuple #[cv,.bool b]) (by unfold execOp; simp only [if_true] at hrun; simp [ho,hrun]) hk hI (Yan hrv (Y29 _)) (Ext.refl _ _ _)
   | false=>exact OpR.value (cv:=cv) (by unfold execOp; simp only [Bool.false_eq_true,if_false] at hrun; simp [ho,hrun]) hk hI hrv (Ext.refl _ _ _)
  have mp:(match mpFor m i.kty i.ety (ev fr x) with
     | some (_,l)=>bif ok then k (pairAV (.d i.ety (mlookK key l)) (.d .bool (mhasK key l))) m g.n else k (.d i.ety (mlookK key l)) m g.n
     | none=>none)=some r→OpR P X o a w g m k kp r:=by
   intro h
   split at h
   ·rename_i τ l hm
    obtain ⟨e1,e2,e3⟩:=Y9h hI hm hx
    have hB:=hI.ok τ
    rw [e1] at hB
    obtain ⟨b1,es,b2,b3,b4⟩:=hB
    have hfind:=hK.find w key (a.eval ix) l es.toList hdk (by simpa using b3) (fun j e p h1 h2=>by
     obtain ⟨_,g',q1,_⟩:=b4 j e p (by simpa using h1) h2
     exact ⟨_,_,_,q1⟩)
    cases hidx:mIdx i.kty.beq key l 0 with
    | none =>
     obtain ⟨n1,n2,_⟩:=Y8k (z:=i.ety.zero) hidx
     refine fin _ _ ez h (by unfold mlookK; rw [n1]; exact z3 _ _ _) ?_
     rw [hidx] at hfind
     unfold mhasK
     rw [n2]
     simp [Instr.lookup,run_underlying u1,e3,MapKept.run_getObj_map b2,hK.chk _ _ _ _ hdk,hfind,hz,Result.andThen]
    | some j =>
     obtain ⟨_,p,n1,n2,n3,n4,_⟩:=Y8l (z:=i.ety.zero) hidx
     rw [Nat.sub_zero] at n1
     have hj:j < es.size:=by rw [b3]; exact (List.getElem?_eq_some_iff.1 n1).1
     obtain ⟨_,g',_,q2⟩:=b4 j es[j] p (by simp [hj]) n1
     refine fin _ _ es[j].val h (by unfold mlookK; rw [n3]; exact Yh q2) ?_
     rw [hidx] at hfind
     have hgd:es.toList.getD j default=es[j]:=by simp [List.getD_eq_getElem?_getD,hj]
     rw [Option.map_some,hgd] at hfind
     unfold mhasK
     rw [n4]
     simp [Instr.lookup,run_underlying u1,e3,MapKept.run_getObj_map b2,hK.chk _ _ _ _ hdk,hfind,Result.andThen]
   ·cases h
  split at h
  ·rename_i hnil
   rw [hnil] at hx
   have e:=(List.cons.inj (hx.2 rfl)).1
   refine fin _ _ ez h (z3 _ _ _) ?_
   have hfind:=hK.find (vt:=i.ety) w key (a.eval ix) [] [] hdk rfl (fun j e p h1=>by simp at h1)
   simp only [mIdx,Option.map_none] at hfind
   simp [Instr.lookup,run_underlying u1,e,hK.chk _ _ _ _ hdk,hfind,hz,Result.andThen]
  ·exact mp h
 ·cases h
def mapW (w:World) (b:Nat) (es:Array MapEntry) (c:Nat):World:={ w with heap:=w.heap.setIfInBounds b (.map es c) }
theorem Y8w (hI:Inv g X m w) {τ:Nat} {kt vt:Ty} {l l':List (kt.T × vt.T)} (hm:mget τ m=.mp kt vt l) {es es':Array MapEntry} (hh:w.heap[(g.loc τ).blk]?=some (.map es es.size)) (hlen:es'.size=l'.length)
  (hE:∀ j e p,es'[j]?=some e→l'[j]?=some p→EOK w (okB X g m) kt vt j e p) :
  Inv g X ((τ,.mp kt vt l') :: m) (mapW w (g.loc τ).blk es' es'.size)∧Ext g m w g ((τ,.mp kt vt l') :: m) (mapW w (g.loc τ).blk es' es'.size):=by
 have hB:=hI.ok τ
 rw [hm] at hB
 have hlive:Lv g m τ:=⟨by rw [hm]; rfl,hB.1⟩
 have hlt:=Y8j hh
 have hs:(mapW w (g.loc τ).blk es' es'.size).heap.size=w.heap.size:=by simp [mapW]
 have ho:∀ b,b ≠ (g.loc τ).blk→(mapW w (g.loc τ).blk es' es'.size).heap[b]?=w.heap[b]?:=fun b hb=>by
  simp [mapW,Array.getElem?_setIfInBounds_ne (Ne.symm hb)]
 have hat:(mapW w (g.loc τ).blk es' es'.size).heap[(g.loc τ).blk]?=some (.map es' es'.size):=by simp [mapW,hlt]
 have hx:=Ext.upd (B':=.mp kt vt l') hlive hs ho rfl rfl rfl
 exact ⟨hI.upd hlive hs ho rfl rfl rfl ⟨hB.1,es',hat,hlen,fun j e p h1 h2=>Y5 hx.holds (hE j e p h1 h2)⟩,hx⟩
theorem eok_mk {kt vt:Ty} {x:kt.T} {y:vt.T} {j:Nat} {cx cy:Value} {ok:Nat→Prop} (hs:kt.hasSlice=false) (hx:DV kt x cx) (hy:RV g w ok (.d vt y) cy):EOK w ok kt vt j ⟨cx,cy,j⟩ (x,y):=by
 obtain ⟨g',w',ok',h⟩:=hx
 refine ⟨rfl,g,?_,hy⟩
 exact ⟨fun e=>let ⟨ds,e1,e2⟩:=h.1 e; ⟨ds,e1,Rd_freeM kt x ds hs e2⟩,fun e=>Rd_freeM kt x _ hs (h.2 e)⟩
where
 Rd_freeM {w w':World} {ok ok':Nat→Prop}:∀ (t:Ty) (x:t.T) (cs:List Value),t.hasSlice=false→Rd w ok t x cs→Rd w' ok' t x cs
 | .int k,n,cs,_,h1=>h1
 | .bool,b,cs,_,h1=>h1
 | .str,s,cs,_,h1=>h1
 | .pair a b,x,cs,hs,⟨c1,c2,e,h1,h2⟩=>by
  simp only [Ty.hasSlice,Bool.or_eq_false_iff] at hs
  exact ⟨c1,c2,e,Rd_freeM a _ _ hs.1 h1,Rd_freeM b _ _ hs.2 h2⟩
 | .one a,x,cs,hs,h1=>Rd_freeM a x cs hs h1
 | .slice t,l,cs,hs,_=>by cases hs
 | .arr n t,l,cs,hs,⟨hl,h1⟩=>⟨hl,Yr (fun x cs=>Rd_freeM t x cs hs) _ _ h1⟩
theorem Ybl {kt vt:Ty} {ok:Nat→Prop} (hs:kt.hasSlice=false) {l:List (kt.T × vt.T)} {es:Array MapEntry} (b3:es.size=l.length) (b4:∀ j e p,es[j]?=some e→l[j]?=some p→EOK w ok kt vt j e p) {x:kt.T} {cx:Value} (hx:DV kt x cx) {y:vt.T} {cy:Value}
  (hy:RV g w ok (.d vt y) cy):(∀ j,mIdx kt.beq x l 0=some j→∀ j' e p,(es.modify j (fun e=>{ e with key:=cx,val:=cy }))[j']?=some e→(mputK x y l)[j']?=some p→EOK w ok kt vt j' e p) ∧
   (mIdx kt.beq x l 0=none→∀ j' e p,(es.push ⟨cx,cy,es.size⟩)[j']?=some e→(mputK x y l)[j']?=some p→EOK w ok kt vt j' e p):=by
 refine ⟨fun j hj j' e p h1 h2=>?_,fun hj j' e p h1 h2=>?_⟩
 ·obtain ⟨_,q,n1,n2,n3,n4,n5,n6⟩:=Y8l (z:=vt.zero) hj
  rw [Nat.sub_zero] at n1 n6
  have h2:(mput kt.beq x y l)[j']?=some p:=h2
  rw [n6 y] at h2
  rw [Array.getElem?_modify] at h1
  by_cases e':j=j'
  ·subst e'
   rw [if_pos rfl] at h1
   have hjl:=(List.getElem?_eq_some_iff.1 n1).1
   rw [List.getElem?_set,if_pos rfl,if_pos hjl] at h2
   cases h2
   have hje:j < es.size:=by omega
   rw [Array.getElem?_eq_getElem hje] at h1
   cases h1
   have hb:=(b4 j es[j] q (by simp [hje]) n1).1
   have:=eok_mk (j:=j) hs hx hy
   obtain ⟨_,g',r1,r2⟩:=this
   exact ⟨hb,g',r1,r2⟩
  ·rw [if_neg e'] at h1
   rw [List.getElem?_set,if_neg e'] at h2
   exact b4 j' e p h1 h2
 ·obtain ⟨n1,n2,n3,n4⟩:=Y8k (z:=vt.zero) hj
  have h2:(mput kt.beq x y l)[j']?=some p:=h2
  rw [n4 y] at h2
  rw [Array.getElem?_push] at h1
  by_cases e':j'=es.size
  ·rw [if_pos e'] at h1
   cases h1
   rw [e',b3,List.getElem?_append_right (Nat.le_refl _),Nat.sub_self] at h2
   cases h2
   rw [e']
   exact eok_mk hs hx hy
  ·rw [if_neg e'] at h1
   have:j' < es.size:=(Array.getElem?_eq_some_iff.1 h1).1
   rw [List.getElem?_append_left (by omega)] at h2
   exact b4 j' e p h1 h2
theorem Y9m {κ α:Type} {eq:κ→κ→Bool} {x:κ} {v:α}:∀ {l:List (κ × α)},(mput eq x v l).length=if (mIdx eq x l 0).isSome then l.length else l.length+1:=by
 intro l
 cases h:mIdx eq x l 0 with
 | none=>obtain ⟨_,_,_,n4⟩:=Y8k (z:=v) h; rw [n4]; simp
 | some j=>obtain ⟨_,_,_,_,_,_,_,n6⟩:=Y8l (z:=v) h; rw [n6]; simp
theorem Y8x {t:TypeId} {i:TI} (hi:TIok P t i) (h1:(Nat.beq i.kind 6 && i.mky)=true) (hI:Inv g X m w) {cv ck cy:Value} {key:i.kty.T} (hk:DV i.kty key ck) {y:i.ety.T} (hy:RV g w (okB X g m) (.d i.ety y) cy) {τ:Nat} {l:List (i.kty.T × i.ety.T)}
  (e1:mget τ m=.mp i.kty i.ety l) (e3:cv=.map (some (g.loc τ).blk)):∃ w',(Instr.mapUpdate t cv ck cy).run P w=.ok () w'∧Inv g X ((τ,.mp i.kty i.ety (mputK key y l)) :: m) w'∧Ext g m w g ((τ,.mp i.kty i.ety (mputK key y l)) :: m) w':=by
 rw [Bool.and_eq_true] at h1
 obtain ⟨kt,vt,u1,u2⟩:=hi.map (Nat.eq_of_beq_eq_true h1.1)
 obtain ⟨hK,fi,ez,z1,z2,z3⟩:=u2.1 h1.2
 have hB:=hI.ok τ
 rw [e1] at hB
 obtain ⟨b1,es,b2,b3,b4⟩:=hB
 have hfind:=hK.find w key ck l es.toList hk (by simpa using b3) (fun j e p h1 h2=>by
  obtain ⟨_,g',q1,_⟩:=b4 j e p (by simpa using h1) h2
  exact ⟨_,_,_,q1⟩)
 obtain ⟨p1,p2⟩:=Ybl hK.sl b3 b4 hk hy
 subst e3
 cases hidx:mIdx i.kty.beq key l 0 with
 | none =>
  rw [hidx] at hfind
  have hlen:(es.push ⟨ck,cy,es.size⟩).size=(mputK key y l).length:=by
   have:(mputK key y l).length=_:=Y9m
   rw [this,hidx]; simp [b3]
  obtain ⟨i1,x1⟩:=Y8w hI e1 b2 hlen (p2 hidx)
  refine ⟨_,?_,i1,x1⟩
  simp [Instr.mapUpdate,run_underlying u1,MapKept.run_getObj_map b2,hK.chk _ _ _ _ hk,hfind,MapKept.run_setObj_map _ b2,Result.andThen,mapW]
 | some j =>
  rw [hidx] at hfind
  obtain ⟨_,q,n1,n2,_⟩:=Y8l (z:=i.ety.zero) hidx
  rw [Nat.sub_zero] at n1
  have hj:j < es.size:=by rw [b3]; exact (List.getElem?_eq_some_iff.1 n1).1
  have hgd:es.toList.getD j default=es[j]:=by simp [List.getD_eq_getElem?_getD,hj]
  rw [Option.map_some,hgd] at hfind
  obtain ⟨_,g',q1,_⟩:=b4 j es[j] q (by simp [hj]) n1
  obtain ⟨st,_⟩:=Yeu (P:=P) hK.sl hk ⟨_,_,_,q1⟩ n2 w
  have hlen:(es.modify j (fun e=>{ e with key:=ck,val:=cy })).size=(mputK key y l).length:=by
   have:(mputK key y l).length=_:=Y9m
   rw [this,hidx]; simp [b3]
  obtain ⟨i1,x1⟩:=Y8w hI e1 b2 hlen (p1 j hidx)
  refine ⟨_,?_,i1,x1⟩
  simp [Instr.mapUpdate,run_underlying u1,MapKept.run_getObj_map b2,hK.chk _ _ _ _ hk,hfind,hj,st,MapKept.run_setObj_map _ b2,Result.andThen,mapW]
theorem Yf {ok:Nat→Prop} {v:AV} {cv:Value} (hv:RV g w ok v cv):∀ (vs:AV) (cvs:List Value),RL g w ok vs cvs→RL g w ok (vs.snoc v) (cvs++[cv])
 | .nil,cvs,h=>by
  have h:cvs=[]:=h
  subst h
  exact ⟨cv,[],rfl,hv,rfl⟩
 | .cons a b,cvs,⟨c,l',e,h1,h2⟩=>⟨c,l'++[cv],by rw [e]; rfl,h1,Yf hv b l' h2⟩
 | .d _ _,_,h=>h.elim
 | .pr _ _,_,h=>h.elim
 | .one _,_,h=>h.elim
 | .nl,_,h=>h.elim
 | .sl _,_,h=>h.elim
 | .vw _ _ _ _,_,h=>h.elim
 | .ptr _ _,_,h=>h.elim
 | .nilp,_,h=>h.elim
 | .pv _ _,_,h=>h.elim
 | .mp _,_,h=>h.elim
 | .nilm,_,h=>h.elim
 | .fn _ _ _,_,h=>h.elim
 | .nilf,_,h=>h.elim
 | .ifc _ _,_,h=>h.elim
 | .yl _,_,h=>h.elim
 | .nili,_,h=>h.elim
 | .tu _,_,h=>h.elim
 | .dead,_,h=>h.elim
theorem Y6l {n:Int}:∀ (ks:List Int) (k0:Nat),hasI n ks=false→mIdx (Ty.int .i64).beq n (fmL ks) k0=none
 | [],_,_=>rfl
 | a :: ks,k0,h=>by
  simp only [hasI] at h
  have hm:mIdx (Ty.int .i64).beq n (fmL (a :: ks)) k0=bif eqI n a then some k0 else mIdx (Ty.int .i64).beq n (fmL ks) (k0+1):=rfl
  rw [hm]
  cases hb:eqI n a with
  | true=>rw [hb] at h; cases h
  | false=>rw [hb] at h; rw [cond_false]; exact Y6l ks _ h
theorem Y8u {t:TypeId} {i:TI} {x kk v:Operand} (ho:o.op=.mapUpdate t x kk v ∨ o.op=.insert t x kk v) (hi:TIok P t i) (hI:Inv g X m w) (hf:FrOK g w (okB X g m) fr a.tmps)
  (h:(bif Nat.beq i.kind 6 && i.fmk then match (ev fr kk).data m (.int .i64),fmFor m (ev fr x) with
   | some n,some (τ,ks,vs)=>bif !hasI n ks && (ev fr v).isFn then k .dead ((τ,.fm (snocI ks n) (vs.snoc (ev fr v))) :: m) g.n else none
   | _,_=>none else none)=some r):OpR P X o a w g m k kp r:=by
 obtain ⟨h1,h⟩:=Y1w h
 rw [Bool.and_eq_true] at h1
 obtain ⟨kt,vt,u1,u2⟩:=hi.map (Nat.eq_of_beq_eq_true h1.1)
 obtain ⟨hK,fi,ez,z1,z2,z3⟩:=u2.2 h1.2
 split at h
 ·rename_i n1 τ ks vs hkey hm
  obtain ⟨n,hn⟩:∃ n:Int,n=n1:=⟨n1,rfl⟩
  subst hn
  obtain ⟨h2,h⟩:=Y1w h
  rw [Bool.and_eq_true,Bool.not_eq_true'] at h2
  have hdk:=Y3q hI hkey (ev_ok hf kk)
  have hkv:a.eval kk=.int .i64 n:=Y78 (Y3u (fun τ=>hI.ok τ) hkey (Y3p hkey) (ev_ok hf kk))
  have hvv:=ev_ok hf v
  obtain ⟨e1,e2,e3⟩:=Y5n hI hm (ev_ok hf x)
  have hB:=hI.ok τ
  rw [e1] at hB
  obtain ⟨b1,es,cvs,b2,b3,b4,b5,b6⟩:=hB
  have hlen:es.toList.length=(fmL ks).length:=by rw [Y5p,Array.length_toList]; exact b3
  have hfind:=hK.find (vt:=.bool) w n (a.eval kk) (fmL ks) es.toList hdk hlen (fun j e p h1 h2=>by
   obtain ⟨n',hq,hp⟩:=Y5o ks j p h2
   have:=(b4 j e n' (by simpa using h1) hq).2
   rw [this,hp]
   exact ⟨g,w,okB X g m,int_mk _ _⟩)
  rw [Y6l ks 0 h2.1,Option.map_none] at hfind
  have hlive:Lv g m τ:=⟨by rw [e1]; rfl,b1⟩
  have hlt:=Y8j b2
  rw [Yep] at h
  obtain ⟨es',hes⟩:∃ es',es'=es.push ⟨a.eval kk,a.eval v,es.size⟩:=⟨_,rfl⟩
  have hsz:es'.size=es.size+1:=by rw [hes]; simp
  have hs:(mapW w (g.loc τ).blk es' es'.size).heap.size=w.heap.size:=by simp [mapW]
  have hoth:∀ b,b ≠ (g.loc τ).blk→(mapW w (g.loc τ).blk es' es'.size).heap[b]?=w.heap[b]?:=fun b hb=>by
   simp [mapW,Array.getElem?_setIfInBounds_ne (Ne.symm hb)]
  have hat:(mapW w (g.loc τ).blk es' es'.size).heap[(g.loc τ).blk]?=some (.map es' es'.size):=by simp [mapW,hlt]
  have hxx:Ext g m w g ((τ,.fm (ks++[n]) (vs.snoc (ev fr v))) :: m) (mapW w (g.loc τ).blk es' es'.size):=Ext.upd hlive hs hoth rfl rfl rfl
  have hI':Inv g X ((τ,.fm (ks++[n]) (vs.snoc (ev fr v))) :: m) (mapW w (g.loc τ).blk es' es'.size):=by
   refine hI.upd hlive hs hoth rfl rfl rfl ⟨b1,es',cvs++[a.eval v],hat,by rw [hsz,b3]; simp,fun j e n' h1 h2=>?_,?_,?_⟩
   ·rw [hes,Array.getElem?_push] at h1
    by_cases ej:j=es.size
    ·rw [if_pos ej] at h1
     cases h1
     rw [ej,b3,List.getElem?_append_right (Nat.le_refl _),Nat.sub_self] at h2
     cases h2
     exact ⟨ej.symm,hkv⟩
    ·rw [if_neg ej] at h1
     have:j < es.size:=(Array.getElem?_eq_some_iff.1 h1).1
     rw [List.getElem?_append_left (by omega)] at h2
     exact b4 j e n' h1 h2
   ·exact Yd (GExt.refl g) hxx.holds _ _ (Yf hvv vs cvs b5)
   ·rw [hes,b6]; simp
  have hr:(Instr.mapUpdate t (a.eval x) (a.eval kk) (a.eval v)).run P w=.ok () (mapW w (g.loc τ).blk es' es'.size):=by
   rw [hes]
   simp [Instr.mapUpdate,run_underlying u1,e3,MapKept.run_getObj_map b2,hK.chk _ _ _ _ hdk,hfind,MapKept.run_setObj_map _ b2,Result.andThen,mapW]
  refine OpR.skip ?_ h hI' hxx
  unfold execOp
  rcases ho with ho | ho <;> simp [ho,hr]
 ·cases h
theorem Y8v {t:TypeId} {i:TI} {x kk v:Operand} (ho:o.op=.mapUpdate t x kk v ∨ o.op=.insert t x kk v) (hi:TIok P t i) (hI:Inv g X m w) (hf:FrOK g w (okB X g m) fr a.tmps)
  (h:(bif Nat.beq i.kind 6 && i.mky then match (ev fr kk).data m i.kty,(ev fr v).data (frzL (ev fr v).toks m) i.ety,mpFor (frzL (ev fr v).toks m) i.kty i.ety (ev fr x) with
   | some key,some y,some (τ,l)=>k .dead ((τ,.mp i.kty i.ety (mputK key y l)) :: frzL (ev fr v).toks m) g.n
   | _,_,_=>none else bif Nat.beq i.kind 6 && i.fmk then match (ev fr kk).data m (.int .i64),fmFor m (ev fr x) with
   | some n,some (τ,ks,vs)=>bif !hasI n ks && (ev fr v).isFn then k .dead ((τ,.fm (snocI ks n) (vs.snoc (ev fr v))) :: m) g.n else none
   | _,_=>none else none)=some r):OpR P X o a w g m k kp r:=by
 by_cases h1:(Nat.beq i.kind 6 && i.mky)=true
 case neg=>rw [Bool.of_not_eq_true h1] at h; exact Y8u ho hi hI hf h
 rw [h1,cond_true] at h
 obtain ⟨hI1,hx1⟩:=Inv.frzL (ev fr v).toks hI
 split at h
 ·rename_i key y τ l hk hy hm
  have hdk:=Y3q hI hk (ev_ok hf kk)
  have hf1:=FrOK.mono hx1.gx (hx1.holds (X:=X)) hf
  have hyv:=Y3u (fun τ=>hI1.ok τ) hy (Y3p hy) (ev_ok hf1 v)
  obtain ⟨e1,e2,e3⟩:=Y9h hI1 hm (ev_ok hf1 x)
  obtain ⟨w',r1,r2,r3⟩:=Y8x hi h1 hI1 hdk hyv e1 e3
  refine OpR.skip ?_ h r2 (hx1.trans r3)
  unfold execOp
  rcases ho with ho | ho <;> simp [ho,r1]
 ·cases h
theorem Y8t {t:TypeId} {i:TI} {x kk:Operand} (ho:o.op=.mapEntry t x kk) (hi:TIok P t i) (hI:Inv g X m w) (hf:FrOK g w (okB X g m) fr a.tmps)
  (h:(bif Nat.beq i.kind 6 && i.mky then match (ev fr kk).data m i.kty,mpFor m i.kty i.ety (ev fr x) with
   | some key,some (τ,l)=>k (pairAV (.d i.ety (mlookK key l)) (.d (.int .i64) (natI (mposK key l)))) ((τ,.mp i.kty i.ety (mputK key (mlookK key l) l)) :: m) g.n
   | _,_=>none else none)=some r):OpR P X o a w g m k kp r:=by
 obtain ⟨h1,h⟩:=Y1w h
 rw [Bool.and_eq_true] at h1
 obtain ⟨kt,vt,u1,u2⟩:=hi.map (Nat.eq_of_beq_eq_true h1.1)
 obtain ⟨hK,fi,ez,z1,z2,z3⟩:=u2.1 h1.2
 split at h
 ·rename_i key τ l hk hm
  have hdk:=Y3q hI hk (ev_ok hf kk)
  obtain ⟨e1,e2,e3⟩:=Y9h hI hm (ev_ok hf x)
  have hB:=hI.ok τ
  rw [e1] at hB
  obtain ⟨b1,es,b2,b3,b4⟩:=hB
  have hfind:=hK.find w key (a.eval kk) l es.toList hdk (by simpa using b3) (fun j e p h1 h2=>by
   obtain ⟨_,g',q1,_⟩:=b4 j e p (by simpa using h1) h2
   exact ⟨_,_,_,q1⟩)
  cases hidx:mIdx i.kty.beq key l 0 with
  | none =>
   rw [hidx] at hfind
   obtain ⟨n1,n2,n3,n4⟩:=Y8k (z:=i.ety.zero) hidx
   have hzv:RV g w (okB X g m) (.d i.ety (mlookK key l)) ez:=by unfold mlookK; rw [n1]; exact z3 _ _ _
   obtain ⟨p1,p2⟩:=Ybl hK.sl b3 b4 hdk hzv
   have hlen:(es.push ⟨a.eval kk,ez,es.size⟩).size=(mputK key (mlookK key l) l).length:=by
    have:(mputK key (mlookK key l) l).length=_:=Y9m
    rw [this,hidx]; simp [b3]
   obtain ⟨i1,x1⟩:=Y8w hI e1 b2 hlen (p2 hidx)
   refine OpR.value (cv:=.tuple #[ez,goInt es.size]) ?_ h i1 (Yan (Yl x1.gx x1.holds hzv) ?_) x1
   ·unfold execOp
    simp [ho,Instr.mapEntry,run_underlying u1,e3,MapKept.run_getObj_map b2,hK.chk _ _ _ _ hdk,hfind,Yg9 z1 z2,MapKept.run_setObj_map _ b2,Result.andThen,mapW]
   ·have:mposK key l=es.size:=by unfold mposK; rw [n3,b3]
    rw [this]; exact int_mk _ _
  | some j =>
   rw [hidx] at hfind
   obtain ⟨_,q,n1,n2,n3,n4,n5,n6⟩:=Y8l (z:=i.ety.zero) hidx
   rw [Nat.sub_zero] at n1 n5
   have hj:j < es.size:=by rw [b3]; exact (List.getElem?_eq_some_iff.1 n1).1
   have hgd:es.toList.getD j default=es[j]:=by simp [List.getD_eq_getElem?_getD,hj]
   rw [Option.map_some,hgd] at hfind
   obtain ⟨hborn,g',q1,q2⟩:=b4 j es[j] q (by simp [hj]) n1
   obtain ⟨st,hkeq⟩:=Yeu (P:=P) hK.sl hdk ⟨_,_,_,q1⟩ n2 w
   have hvv:RV g w (okB X g m) (.d i.ety (mlookK key l)) es[j].val:=by unfold mlookK; rw [n3]; exact Yh q2
   obtain ⟨p1,p2⟩:=Ybl hK.sl b3 b4 hdk hvv
   have hmod:es.modify j (fun e=>{ e with key:=a.eval kk })=es.modify j (fun e=>{ e with key:=a.eval kk,val:=es[j].val }):=by
    apply Array.ext_getElem?
    intro i'
    rw [Array.getElem?_modify,Array.getElem?_modify]
    split
    ·rename_i e; subst e; simp [hj]
    ·rfl
   have hlen:(es.modify j (fun e=>{ e with key:=a.eval kk,val:=es[j].val })).size=(mputK key (mlookK key l) l).length:=by
    have:(mputK key (mlookK key l) l).length=_:=Y9m
    rw [this,hidx]; simp [b3]
   obtain ⟨i1,x1⟩:=Y8w hI e1 b2 hlen (p1 j hidx)
   refine OpR.value (cv:=.tuple #[es[j].val,goInt j]) ?_ h i1 (Yan (Yl x1.gx x1.holds hvv) ?_) x1
   ·unfold execOp
    simp [ho,Instr.mapEntry,run_underlying u1,e3,MapKept.run_getObj_map b2,hK.chk _ _ _ _ hdk,hfind,hj,st,hborn,MapKept.run_setObj_map _ b2,Result.andThen,mapW,← hmod]
   ·have:mposK key l=j:=by unfold mposK; rw [n5]
    rw [this]; exact int_mk _ _
 ·cases h
theorem Y9o {κ α:Type}:∀ (l:List (κ × α)) (n:Nat) (v:α) (j:Nat) (p:κ × α),(mset l n v)[j]?=some p→∃ q,l[j]?=some q∧p=(q.1,if j=n then v else q.2)
 | [],n,v,j,p,h=>by simp [mset] at h
 | q :: l,0,v,j,p,h=>by
  cases j with
  | zero=>simp [mset] at h; exact ⟨q,rfl,by simp [h]⟩
  | succ j=>simp only [mset,List.getElem?_cons_succ] at h; exact ⟨p,by simpa using h,by simp⟩
 | q :: l,n+1,v,j,p,h=>by
  cases j with
  | zero=>simp [mset] at h; exact ⟨q,rfl,by simp [h]⟩
  | succ j =>
   simp only [mset,List.getElem?_cons_succ] at h
   obtain ⟨q',h1,h2⟩:=Y9o l n v j p h
   exact ⟨q',by simpa using h1,by rw [h2]; simp⟩
theorem Y9p {κ α:Type}:∀ (l:List (κ × α)) (n:Nat) (v:α),(mset l n v).length=l.length
 | [],n,v=>rfl
 | q :: l,0,v=>rfl
 | q :: l,n+1,v=>by simp [mset,Y9p l n v]
theorem Y5c {es:Array MapEntry} {n:Int} (h0:0 ≤ n) (h1:n.toNat < es.size) (hb:∀ j (hj:j < es.size),(es[j]).born=j):es.findIdx? (fun e=>(e.born:Int) == n)=some n.toNat:=by
 rw [Array.findIdx?_eq_some_iff_getElem]
 refine ⟨h1,?_,fun j hlt=>?_⟩
 ·rw [hb _ h1]; simp; omega
 ·rw [hb j (by omega)]; simp; omega
theorem Y4l {t:TypeId} {b:Nat} {es:Array MapEntry} {n:Int} {kd:IntKind} {cy:Value} (hh:w.heap[b]?=some (.map es es.size)) (hfi:es.findIdx? (fun e=>(e.born:Int) == n)=some n.toNat) :
  (Instr.entryStore t (.map (some b)) (.int kd n) cy).run P w=.ok () (mapW w b (es.modify n.toNat (fun e=>{ e with val:=cy })) (es.modify n.toNat (fun e=>{ e with val:=cy })).size):=by
 simp [Instr.entryStore,MapKept.run_getObj_map hh,asInt,asIntOf,hfi,MapKept.run_setObj_map _ hh,Result.andThen,mapW]
theorem Y4k {t:TypeId} {i:TI} {x s v:Operand} (ho:o.op=.entryStore t x s v) (hi:TIok P t i) (hI:Inv g X m w) (hf:FrOK g w (okB X g m) fr a.tmps)
  (h:(bif Nat.beq i.kind 6 && i.mky then match ev fr s,(ev fr v).data (frzL (ev fr v).toks m) i.ety,mpFor (frzL (ev fr v).toks m) i.kty i.ety (ev fr x) with
   | .d (.int _) n,some y,some (τ,l)=>req (inb n l.length) (k .dead ((τ,.mp i.kty i.ety (mset l (toN n) y)) :: frzL (ev fr v).toks m) g.n)
   | _,_,_=>none else none)=some r):OpR P X o a w g m k kp r:=by
 obtain ⟨h1,h⟩:=Y1w h
 obtain ⟨hI1,hx1⟩:=Inv.frzL (ev fr v).toks hI
 have hf1:=FrOK.mono hx1.gx (hx1.holds (X:=X)) hf
 split at h
 ·rename_i kd n y τ l hs hy hm
  obtain ⟨hin,h⟩:=Yca h
  obtain ⟨n0,n1⟩:=Y6r hin
  have hsv:=ev_ok hf1 s
  rw [hs] at hsv
  have hsv:=Y78 hsv
  have hyv:=Y3u (fun τ=>hI1.ok τ) hy (Y3p hy) (ev_ok hf1 v)
  obtain ⟨e1,e2,e3⟩:=Y9h hI1 hm (ev_ok hf1 x)
  have hB:=hI1.ok τ
  rw [e1] at hB
  obtain ⟨b1,es,b2,b3,b4⟩:=hB
  have hj:n.toNat < es.size:=by omega
  have hborn:∀ j (hj:j < es.size),(es[j]).born=j:=fun j hj=>by
   have:j < l.length:=by omega
   exact (b4 j es[j] l[j] (by simp [hj]) (by simp [this])).1
  have hfi:=Y5c n0 hj hborn
  have hlen:(es.modify n.toNat (fun e=>{ e with val:=a.eval v })).size=(mset l (toN n) y).length:=by rw [Y9p]; simp [b3]
  have hE:∀ j e p,(es.modify n.toNat (fun e=>{ e with val:=a.eval v }))[j]?=some e→(mset l (toN n) y)[j]?=some p→EOK w (okB X g (frzL (ev fr v).toks m)) i.kty i.ety j e p:=by
   intro j e p h1 h2
   obtain ⟨q,q1,q2⟩:=Y9o _ _ _ _ _ h2
   rw [Array.getElem?_modify] at h1
   unfold toN at q2
   by_cases ej:n.toNat=j
   ·subst ej
    rw [if_pos rfl,Array.getElem?_eq_getElem hj] at h1
    cases h1
    obtain ⟨c1,g',c2,c3⟩:=b4 n.toNat es[n.toNat] q (by simp [hj]) q1
    rw [if_pos rfl] at q2
    subst q2
    exact ⟨c1,g',c2,Yh hyv⟩
   ·rw [if_neg ej] at h1
    rw [if_neg (fun e=>ej e.symm)] at q2
    subst q2
    exact b4 j e q h1 q1
  obtain ⟨i1,x1⟩:=Y8w hI1 e1 b2 hlen hE
  refine OpR.skip ?_ h i1 (hx1.trans x1)
  have hr:=Y4l (P:=P) (t:=t) (kd:=kd) (cy:=a.eval v) b2 hfi
  rw [← hsv,← e3] at hr
  unfold execOp
  simp [ho,hr]
 ·cases h
theorem Y31 {c:Call} {x:Operand} {t:TypeId} {i:TI} (ho:o.op=.call c) (hc:c.callee=.builtin .clear) (ha:c.args.toList=[x]) (htt:c.argTypes.toList=[t]) (hi:TIok P t i) (hI:Inv g X m w)
  (hf:FrOK g w (okB X g m) fr a.tmps) (hb:Nat.beq i.kind 2=true) {τ lo n:Nat} {xs:List i.ety.T} (hx:dstFor m i.ety (ev fr x)=some (τ,lo,n,xs))
  (h:k (.tu .nil) ((τ,.row i.ety (over xs (List.replicate n i.ety.zero) lo n)) :: m) g.n=some r):OpR P X o a w g m k kp r:=by
 obtain ⟨e,fi,ez,k1,k2,k3,k4,k5,k6,k7,k8⟩:=hi.slice (Nat.eq_of_beq_eq_true hb)
 have hxv:=ev_ok hf x
 have hez:ez.cells.size=i.ety.size:=by have:=Rd_len w (fun _=>True) _ _ _ (k6 w (fun _=>True)); simpa using this
 have hzc:Builtin.zeroCells ez.cells n=madeCells ez.cells (n * i.ety.size):=by unfold Builtin.zeroCells madeCells; rw [hez]
 obtain ⟨news,hnw⟩:∃ news,news=(madeCells ez.cells (n * i.ety.size)).toList:=⟨_,rfl⟩
 obtain ⟨ys,hys⟩:∃ ys,ys=List.replicate n i.ety.zero:=⟨_,rfl⟩
 have n1:RdL (Rd w (okB X g m) i.ety) ys news:=by rw [hys,hnw]; exact Yq (k6 w _) hez n
 have nlen:news.length=n * i.ety.size:=by rw [hnw]; simp [size_madeCells]
 have n2one:∀ v ∈ news,v.oneCell'=true:=Ys (fun x cs h=>Rd_one w (okB X g m) i.ety x cs h) _ _ n1
 rw [← hys] at h
 obtain ⟨hm,hrow⟩:=Y49 hI hx hxv
 have ea:c.args=#[x]:=by apply Array.toList_inj.1; simpa using ha
 have et:c.argTypes=#[t]:=by apply Array.toList_inj.1; simpa using htt
 have fin:∀ v w',(Builtin.clear_ #[t] o.type #[a.eval x]).run P w=.ok v w'→(execOp a.eval o).run P w=.ok (.value v) w':=by
  intro v w' hr
  unfold execOp
  simp [ho,resolve,hc,ea,et,invoke,builtin,hr]
 have hR:=fun x cs h=>Rd_len w (okB X g m) i.ety x cs h
 have hq:n ≤ ys.length:=by rw [hys]; simp
 have hqn:n ≤ n:=Nat.le_refl _
 have hyn:ys.length=n:=by rw [hys]; simp
 have hfit:=hrow.fit
 obtain ⟨ad,hcv,hval⟩:=hrow.val
 have hlv0:(mget τ m).live=true:=by rw [hm]; rfl
 rcases hval with ⟨p1,rfl,p3,rfl⟩ | ⟨p1,off,cc,ee,cells,rfl,p2,p3,p4,p5,p6,p7⟩
 ·have hl0:=hrow.len
  simp at hfit
  have hq0:n=0:=hfit.2
  subst hq0
  have hov:over ([]:List i.ety.T) ys lo 0=[]:=by unfold over; simp
  rw [hov] at h
  have hB:=hI.ok τ
  -- the row is nil: nothing is written
  have hxx:Ext g m w g ((τ,.row i.ety []) :: m) w:=⟨GExt.refl g,fun _ h=>.inl h,Nat.le_refl _,fun _ _ _=>rfl,fun b ⟨σ,⟨q1,q1'⟩,q2⟩=>by
   rw [Y99] at q1
   by_cases e:τ=σ
   ·subst e; rw [p1] at q1'; cases q1'
   ·rw [if_neg e] at q1; exact .inl ⟨σ,⟨q1,q1'⟩,q2⟩,rfl,rfl,rfl⟩
  have hmg:∀ σ,mget σ ((τ,.row i.ety []) :: m)=mget σ m:=by
   intro σ
   rw [Y99]
   split
   ·rename_i e; subst e; exact hm.symm
   ·rfl
  have hI':Inv g X ((τ,.row i.ety []) :: m) w:=by
   have lv:∀ σ,Lv g ((τ,.row i.ety []) :: m) σ ↔ Lv g m σ:=fun σ=>by unfold Lv; rw [hmg]
   refine hI.step hxx (fun σ=>?_) (fun σ σ' k1 k2 k3=>hI.inj σ σ' ((lv σ).1 k1) ((lv σ').1 k2) k3) (fun σ k1=>hI.far σ ((lv σ).1 k1)) (fun σ k1=>by rw [hmg]; exact hI.fresh σ k1) hI.dlt
   by_cases hd:g.dom σ
   ·exact .inl ⟨hd,hmg σ,fun _=>rfl⟩
   ·right; rw [hmg,hI.fresh σ hd]; trivial
  refine OpR.value (cv:=.tuple #[]) (fin _ _ ?_) h hI' ⟨fun h=>(by cases h),fun _=>⟨[],rfl,rfl⟩⟩ hxx
  simp [Builtin.clear_,run_underlying k1,hcv]
 ·have hsz:fi.size=i.ety.size:=k3
  have hl0:=hrow.len
  have hc0:=hrow.cap
  have hnews:(news.take (n * i.ety.size)).length=n * i.ety.size:=by
   rw [List.length_take,nlen]
   have:=Nat.mul_le_mul_right i.ety.size hq
   omega
  have hqm:n * i.ety.size ≤ ((g.loc τ).cap - lo) * i.ety.size:=Nat.mul_le_mul_right _ (by omega)
  have hst:=run_storeCells_at P (g.loc τ).blk off ee (news.take (n * i.ety.size)) 0 cc w p4 (by rw [hnews]; omega) (fun v hv=>n2one v (List.mem_of_mem_take hv))
  simp only [Nat.add_zero] at hst
  generalize hN:(cc.toList.take off++news.take (n * i.ety.size)++cc.toList.drop (off+(news.take (n * i.ety.size)).length))=nc at hst
  rw [hnews] at hN
  have hncl:nc.length=cc.size:=by
   rw [← hN]; simp only [List.length_append,List.length_take,List.length_drop,Array.length_toList] at hnews ⊢; omega
  have hlive:Lv g m τ:=⟨hlv0,p1⟩
  have hoth:∀ b,b ≠ (g.loc τ).blk→(w.setRow (g.loc τ).blk nc.toArray).heap[b]?=w.heap[b]?:=fun b hb=>setRow_other w _ b _ hb
  have hh':=setRow_heap w (g.loc τ).blk cc nc.toArray ee _ p4
  have hs:=Ydu w (g.loc τ).blk nc.toArray
  have hx':=Ext.upd (B':=.row i.ety (over xs ys lo n)) hlive hs hoth rfl rfl rfl
  have hcells:=Yp hR xs cells p5
  have hovl:(over xs ys lo n).length=xs.length:=Yal (by omega) hq
  have hmul1:=Nat.mul_le_mul_right i.ety.size (show lo+n ≤ xs.length by omega)
  rw [Nat.add_mul] at hmul1
  refine OpR.value (cv:=.tuple #[]) (fin _ _ ?_) h (hI.upd hlive hs hoth rfl rfl rfl ?_) ⟨fun h=>(by cases h),fun _=>⟨[],rfl,rfl⟩⟩ hx'
  ·have htk:news.take (n * i.ety.size)=news:=List.take_of_length_le (by omega)
   rw [htk] at hst
   cases n with
   | zero =>
    have:news=[]:=List.eq_nil_of_length_eq_zero (by rw [nlen]; omega)
    rw [this] at hst
    simp [storeCells,Sem.run_pure] at hst
    rw [← hst]
    simp [Builtin.clear_,run_underlying k1,hcv]
   | succ n =>
    have hzn:(Builtin.zeroCells ez.cells (n+1)).toList=news:=by rw [hzc,hnw]
    rw [hcv]
    simp only [Builtin.clear_]
    simp [run_underlying k1,zeroValue,typeInfo,k2,k5,hzn,hst]
  ·have hrd:RdL (Rd w (okB X g m) i.ety) (over xs ys lo n) (cells.take (lo * i.ety.size)++news.take (n * i.ety.size)++cells.drop ((lo+n) * i.ety.size)):=by
    unfold over
    exact Yo _ _ _ _ (Yo _ _ _ _ (Yu hR xs cells p5 lo).1 (Yu hR ys news n1 n).1) (Yu hR xs cells p5 (lo+n)).2
   refine ⟨by rw [hovl]; exact hl0,hc0,.inr ⟨p1,nc.toArray,ee,_,hh',Yr (fun x cs=>Yx hx'.holds _ x cs) _ _ hrd,fun j v hv=>?_,by simp only [List.size_toArray,hncl]; exact p7⟩⟩
   rw [List.getElem?_toArray,← hN]
   by_cases hq0:n=0
   ·subst hq0
    simp only [Nat.zero_mul,List.take_zero,List.append_nil,Nat.add_zero,List.take_append_drop] at hv ⊢
    have:=p6 _ _ hv
    simpa using this
   ·have hoff:=p2 (by omega)
    have htk:(cells.take (lo * i.ety.size)).length=lo * i.ety.size:=by rw [List.length_take,hcells]; omega
    have htk2:(cc.toList.take off).length=off:=by
     rw [List.length_take,Array.length_toList]; omega
    by_cases h1:j < lo * i.ety.size
    ·rw [List.append_assoc,List.getElem?_append_left (by omega),List.getElem?_take_of_lt h1] at hv
     rw [List.append_assoc,List.getElem?_append_left (by omega),List.getElem?_take_of_lt (by omega)]
     have:=p6 _ _ hv
     simpa using this
    ·by_cases h2:j < lo * i.ety.size+n * i.ety.size
     ·rw [List.append_assoc,List.getElem?_append_right (by omega),htk,List.getElem?_append_left (by omega)] at hv
      rw [List.append_assoc,List.getElem?_append_right (by omega),htk2,List.getElem?_append_left (by omega),← hv]
      congr 1; omega
     ·rw [List.getElem?_append_right (by rw [List.length_append]; omega),List.length_append,htk,hnews,List.getElem?_drop] at hv
      rw [List.getElem?_append_right (by rw [List.length_append]; omega),List.length_append,htk2,hnews,List.getElem?_drop]
      have:=p6 _ _ hv
      rw [Nat.add_mul] at this
      rw [show off+n * i.ety.size+((g.loc τ).base+j - (off+n * i.ety.size))=(g.loc τ).base+(lo * i.ety.size+n * i.ety.size+(j - (lo * i.ety.size+n * i.ety.size))) by omega]
      simpa using this
theorem Y8q {t:TypeId} {i:TI} {rs:Option Operand} (ho:o.op=.makeMap t rs) (hi:TIok P t i) (hI:Inv g X m w) (hf:FrOK g w (okB X g m) fr a.tmps)
  (h:(bif Nat.beq i.kind 6 && i.fmk then (match (generalizing:=false) rs with
   | none=>k (.mp g.n) ((g.n,.fm [] .nil) :: m) (g.n+1)
   | some x=>match ev fr x with
    | .d (.int _) _=>k (.mp g.n) ((g.n,.fm [] .nil) :: m) (g.n+1)
    | _=>none) else none)=some r):OpR P X o a w g m k kp r:=by
 obtain ⟨h1,h9⟩:=Y1w h
 clear h
 rw [Bool.and_eq_true] at h1
 obtain ⟨kt,vt,u1,u2⟩:=hi.map (Nat.eq_of_beq_eq_true h1.1)
 have hk:k (.mp g.n) ((g.n,.fm [] .nil) :: m) (g.n+1)=some r∧(execOp a.eval o).run P w=.ok (.value (.map (some w.heap.size))) (w.alloc (.map #[] 0)):=by
  split at h9
  ·refine ⟨h9,?_⟩
   unfold execOp
   simp [ho,Instr.makeMap,run_newObj_alloc,Result.andThen]
  ·rename_i x0
   split at h9
   ·rename_i kd n hx
    have hxv:=ev_ok hf x0
    rw [hx] at hxv
    refine ⟨h9,?_⟩
    have hai:(asInt (a.eval x0)).run P w=.ok (n:Int) w:=by rw [Y78 hxv]; rfl
    unfold execOp
    simp [ho,Instr.makeMap,run_underlying u1,hai,run_newObj_alloc,Result.andThen]
   ·cases h9
 let L:Loc:=⟨w.heap.size,0,0,0,false⟩
 have hx:=Ext.alloc hI (.map #[] 0) (.fm [] .nil) L rfl
 refine OpR.value (g':=g.new L) hk.2 hk.1 (hI.alloc _ _ L rfl ?_) ⟨fun h=>(by cases h),fun _=>⟨.inr rfl,by rw [G.new_self]⟩⟩ hx
 refine ⟨by rw [G.new_self],#[],[],?_,rfl,fun j e p h1=>by simp at h1,rfl,rfl⟩
 rw [G.new_self]
 have:=World.alloc_heap_new w (.map #[] 0)
 simpa [L] using this
theorem Y8r {t:TypeId} {i:TI} {rs:Option Operand} (ho:o.op=.makeMap t rs) (hi:TIok P t i) (hI:Inv g X m w) (hf:FrOK g w (okB X g m) fr a.tmps)
  (h:(bif Nat.beq i.kind 6 && i.mky then (match rs with
   | none=>k (.mp g.n) ((g.n,.mp i.kty i.ety []) :: m) (g.n+1)
   | some x=>match ev fr x with
    | .d (.int _) _=>k (.mp g.n) ((g.n,.mp i.kty i.ety []) :: m) (g.n+1)
    | _=>none) else bif Nat.beq i.kind 6 && i.fmk then (match (generalizing:=false) rs with
   | none=>k (.mp g.n) ((g.n,.fm [] .nil) :: m) (g.n+1)
   | some x=>match ev fr x with
    | .d (.int _) _=>k (.mp g.n) ((g.n,.fm [] .nil) :: m) (g.n+1)
    | _=>none) else none)=some r):OpR P X o a w g m k kp r:=by
 by_cases h1:(Nat.beq i.kind 6 && i.mky)=true
 case neg=>rw [Bool.of_not_eq_true h1] at h; exact Y8q ho hi hI hf h
 have h9:=h
 rw [h1,cond_true] at h9
 clear h
 rw [Bool.and_eq_true] at h1
 obtain ⟨kt,vt,u1,u2⟩:=hi.map (Nat.eq_of_beq_eq_true h1.1)
 have hk:k (.mp g.n) ((g.n,.mp i.kty i.ety []) :: m) (g.n+1)=some r∧(execOp a.eval o).run P w=.ok (.value (.map (some w.heap.size))) (w.alloc (.map #[] 0)):=by
  split at h9
  ·refine ⟨h9,?_⟩
   unfold execOp
   simp [ho,Instr.makeMap,run_newObj_alloc,Result.andThen]
  ·rename_i x0
   split at h9
   ·rename_i kd n hx
    have hxv:=ev_ok hf x0
    rw [hx] at hxv
    refine ⟨h9,?_⟩
    have hai:(asInt (a.eval x0)).run P w=.ok (n:Int) w:=by rw [Y78 hxv]; rfl
    unfold execOp
    simp [ho,Instr.makeMap,run_underlying u1,hai,run_newObj_alloc,Result.andThen]
   ·cases h9
 let L:Loc:=⟨w.heap.size,0,0,0,false⟩
 have hx:=Ext.alloc hI (.map #[] 0) (.mp i.kty i.ety []) L rfl
 refine OpR.value (g':=g.new L) hk.2 hk.1 (hI.alloc _ _ L rfl ?_) ⟨fun h=>(by cases h),fun _=>⟨.inr rfl,by rw [G.new_self]⟩⟩ hx
 refine ⟨by rw [G.new_self],#[],?_,rfl,fun j e p h1=>by simp at h1⟩
 rw [G.new_self]
 have:=World.alloc_heap_new w (.map #[] 0)
 simpa [L] using this
end
end Go.Proofs.YthdlpkdojipfhaaGreat.VX

