import Derived.Test.YtifbgkikkiallaaGreatEdgesRunE6
import Derived.MapKept
import Derived.WideKeyEntry
set_option linter.unusedVariables false
set_option linter.unusedSimpArgs false
namespace Go.Proofs.YtifbgkikkiallaaGreat.VX
section
variable {P:Program} {C:Ctx} {X:Nat->Prop} {R:Type} {o:Oper} {a:Act} {w:World} {g:G} {m:Mem} {k kp:AV->Mem->Nat->Option R} {r:R} {fr:Fr}
theorem Ycr {x:Operand} (ho:o.op=.nilCheck x) (hI:Inv g X m w) (hf:FrOK g w (okB X g m) fr a.tmps) (h:(match ev fr x with
  | .ptr τ p=>k (.ptr τ p) m g.n
  | .pv t x=>k (.pv t x) m g.n
  | .ifc t v=>k (.ifc t v) m g.n
  | .fn f a b=>k (.fn f a b) m g.n
  | _=>none)=some r):OpR P X o a w g m k kp r:=by
 have hx:=ev_ok hf x;generalize ev fr x=v at *;cases v with
 | ptr τ p =>
  refine OpR.value (cv:=a.eval x) ?_ h hI hx (Ext.refl _ _ _);obtain ⟨_,_,e⟩:=Yet hx;unfold execOp; simp[ho,e]
 | pv t y =>
  refine OpR.value (cv:=a.eval x) ?_ h hI hx (Ext.refl _ _ _);obtain ⟨ad,cells,e,_⟩:=hx.2 rfl;have e:=(List.cons.inj e).1;unfold execOp; simp[ho,e]
 | ifc t v =>
  refine OpR.value (cv:=a.eval x) ?_ h hI hx (Ext.refl _ _ _);obtain ⟨cv,e,_⟩:=hx.2 rfl;have e:=(List.cons.inj e).1;unfold execOp; simp[ho,e]
 | fn f u v =>
  refine OpR.value (cv:=a.eval x) ?_ h hI hx (Ext.refl _ _ _);obtain ⟨fs,ks,_,_,e⟩:=hx.2 rfl;have e:=(List.cons.inj e).1;unfold execOp; simp[ho,e]
 | _=>cases h
theorem Ye4 {ok:Nat->Prop} {u v:AV} {cu cv:Value} (h1:RV g w ok u cu) (h2:RV g w ok v cv):RV g w ok (pairAV u v) (.tuple #[cu,cv]) :=
 ⟨fun h=>(by cases h),fun _=>⟨[cu,cv],⟨cu,[cv],rfl,h1,cv,[],rfl,h2,rfl⟩,rfl⟩⟩
theorem Yb7 {t:TypeId} {i:TI} {x:Operand} (ho:o.op=.makeInterface t x) (hi:TIok P t i) (hI:Inv g X m w) (hf:FrOK g w (okB X g m) fr a.tmps)
  (h:(bif i.notI && (ev fr x).sto then k (.ifc t (ev fr x)) m g.n else none)=some r):OpR P X o a w g m k kp r:=by
 obtain ⟨h1,h2⟩:=Y2j h;rw[ba9] at h1;obtain ⟨d,hd,hni⟩:=hi.notI h1.1;have hx:=ev_ok hf x;refine OpR.value (cv:=.iface t (a.eval x)) ?_ h2 hI ⟨fun h=>(by cases h),fun _=>⟨_,rfl,hx.1,hx.2⟩⟩ (Ext.refl _ _ _);unfold execOp;simp only[ho,Instr.makeInterface,Sem.run_bind,run_underlying hd,Result.andThen_ok];cases d <;> first | exact absurd rfl (hni _) | simp
theorem Yk2 {t s:TypeId} {i:TI} {x:Operand} {ok:Bool} (ho:o.op=.typeAssert x s t ok) (hi:TIok P t i) (hI:Inv g X m w) (hf:FrOK g w (okB X g m) fr a.tmps)
  (h:(match ev fr x with
   | .ifc t' v=>bif i.notI && Nat.beq t' t then (bif ok then k (pairAV v (.d .bool true)) m g.n else k v m g.n) else none
   | .nili=>bif i.notI && ok then k (pairAV i.zero (.d .bool false)) m g.n else none
   | _=>none)=some r):OpR P X o a w g m k kp r:=by
 have hx:=ev_ok hf x;generalize ev fr x=v at *;cases v with
 | ifc t' v =>
  obtain ⟨h1,h2⟩:=Y2j h;rw[ba9] at h1;obtain ⟨d,hd,hni⟩:=hi.notI h1.1;have ht:=eb9 h1.2;subst ht;obtain ⟨cv,e,q1,q2⟩:=hx.2 rfl;have e:=(List.cons.inj e).1;have hv:RV g w (okB X g m) v cv:=⟨q1,q2⟩
  cases ok with
  | true =>
   refine OpR.value (cv:=.tuple #[cv,.bool true]) ?_ h2 hI (Ye4 hv (Y2w _)) (Ext.refl _ _ _);unfold execOp;simp only[ho,Instr.typeAssert,Sem.run_bind,run_underlying hd,Result.andThen_ok,e];cases d <;> first | exact absurd rfl (hni _) | simp
  | false =>
   refine OpR.value (cv:=cv) ?_ h2 hI hv (Ext.refl _ _ _);unfold execOp;simp only[ho,Instr.typeAssert,Sem.run_bind,run_underlying hd,Result.andThen_ok,e];cases d <;> first | exact absurd rfl (hni _) | simp
 | nili =>
  obtain ⟨h1,h2⟩:=Y2j h;rw[ba9] at h1;obtain ⟨d,hd,hni⟩:=hi.notI h1.1;obtain ⟨f,z,z1,z2,z3,z4,z5,z6⟩:=hi.info;have hok:ok=true:=h1.2;subst hok;have e:=(List.cons.inj (hx.2 rfl)).1;refine OpR.value (cv:=.tuple #[z,.bool false]) ?_ h2 hI (Ye4 (z6 _ _ _) (Y2w _)) (Ext.refl _ _ _);have hz:(zeroValue t).run P w=.ok z w:=by simp[zeroValue,typeInfo,z1,z3]
  unfold execOp;simp only[ho,Instr.typeAssert,Sem.run_bind,run_underlying hd,Result.andThen_ok,e];cases d <;> first | exact absurd rfl (hni _) | simp[hz]
 | _=>cases h
theorem Ye7 {x:Operand} (ho:o.op=.panic x) (hI:Inv g X m w) (hf:FrOK g w (okB X g m) fr a.tmps) (h:(match ev fr x with
  | .ifc t v=>kp (.ifc t v) m g.n
  | _=>none)=some r):OpR P X o a w g m k kp r:=by
 have hx:=ev_ok hf x;generalize ev fr x=v at *;cases v with
 | ifc t v =>
  have hx':=hx;obtain ⟨cv,e,_⟩:=hx.2 rfl;have e:=(List.cons.inj e).1;intro rd next Q hn hp
  refine ⟨fun _ _=>trivial,?_⟩;have hs:o.semAt rd a.eval=execOp a.eval o:=Oper.semAt_eq rd _ o (fun c h=>by rw[ho] at h; cases h)
  have hr:(execOp a.eval o).run P w=.halt (.panic (.iface t cv)) w:=by
   unfold execOp; simp[ho,e,Instr.panic,goPanic,Sem.run_bind,Sem.run]
  rw[show (FR rd).round=rd from rfl,hs,hr];exact hp _ m g _ w h hI (by rw[<- e]; exact hx') (Ext.refl _ _ _)
 | _=>cases h
theorem Y54 (hI:Inv g X m w) {v:AV} {t:Ty} {x:t.T} (h:v.data m t=some x) {cv:Value} (hv:RV g w (okB X g m) v cv):DV t x cv :=
 ⟨g,w,okB X g m,Y58 (fun τ=>hI.ok τ) h (Y53 h) hv⟩
theorem Ycb (hI:Inv g X m w) {kt vt:Ty} {v:AV} {τ:Nat} {l:List (kt.T × vt.T)} (h:mpFor m kt vt v=some (τ,l)) {cv:Value} (hv:RV g w (okB X g m) v cv) :
  mget τ m=.mp kt vt l/\g.dom τ/\cv=.map (some (g.loc τ).blk):=by
 cases v with
 | mp σ =>
  simp only[mpFor] at h;split at h
  ·rename_i k' v' l' hm;split at h
   ·rename_i l2 hc;cases h;obtain ⟨e,he⟩:=Y4v hc;cases e;have he:l=l':=he;subst he;obtain ⟨h1,h2⟩:=hv.2 rfl;exact ⟨hm,h1,(List.cons.inj h2).1⟩
   ·cases h
  ·cases h
 | _=>cases h
theorem Yku {vt:TypeId} {fi:TypeInfo} {ez:Value} (h1:P.info? vt=some fi) (h2:fi.zero=some ez) (w:World):(zeroValue vt).run P w=.ok ez w:=by simp[zeroValue,typeInfo,h1,h2]
theorem Yp {g g':G} {w:World} {ok:Nat->Prop} {t:Ty} {x:t.T} {cv:Value} (h:RV g w ok (.d t x) cv):RV g' w ok (.d t x) cv :=
 ⟨fun e=>let ⟨ds,e1,e2⟩:=h.1 e; ⟨ds,e1,e2⟩,fun e=>h.2 e⟩
theorem Y77 (hI:Inv g X m w) {v:AV} {τ:Nat} {ks:List Int} {vs:AV} (h:fmFor m v=some (τ,ks,vs)) {cv:Value} (hv:RV g w (okB X g m) v cv) :
  mget τ m=.fm ks vs/\g.dom τ/\cv=.map (some (g.loc τ).blk):=by
 cases v with
 | mp σ =>
  simp only[fmFor] at h;split at h
  ·rename_i ks' vs' hm;cases h;obtain ⟨h1,h2⟩:=hv.2 rfl;exact ⟨hm,h1,(List.cons.inj h2).1⟩
  ·cases h
 | _=>cases h
def fmL (ks:List Int):List ((Ty.int .i64).T × Ty.bool.T):=ks.map fun n=>((n:(Ty.int .i64).T),(false:Ty.bool.T))
theorem Y79:∀ ks:List Int,(fmL ks).length=ks.length
 | []=>rfl
 | a :: ks=>congrArg (·+1) (Y79 ks)
theorem Y78:∀ (ks:List Int) (j:Nat) (p:(Ty.int .i64).T × Ty.bool.T),(fmL ks)[j]?=some p->∃ n:Int,ks[j]?=some n/\p.1=n
 | [],j,p,h=>by cases h
 | a :: ks,0,p,h=>by cases h; exact ⟨a,rfl,rfl⟩
 | a :: ks,j+1,p,h=>Y78 ks j p h
theorem Y7b {R:Type} {ok:Nat->Prop} {n:Int} {z:Option R} {k:AV->Option R} {r:R}:∀ (ks:List Int) (vs:AV) (cvs:List Value) (k0:Nat),RL g w ok vs cvs->fmSel n z k ks vs=some r ->
  (∃ j v cv,mIdx (Ty.int .i64).beq n (fmL ks) k0=some (k0+j)/\cvs[j]?=some cv/\RV g w ok v cv/\k v=some r) \/ (mIdx (Ty.int .i64).beq n (fmL ks) k0=none/\z=some r)
 | [],_,_,_,_,h=>.inr ⟨rfl,h⟩
 | a :: ks,.cons v vs,cvs,k0,hR,h=>by
  obtain ⟨cv,l',e,hv,hR'⟩:=hR;simp only[fmSel] at h;have hm:mIdx (Ty.int .i64).beq n (fmL (a :: ks)) k0=bif eqI n a then some k0 else mIdx (Ty.int .i64).beq n (fmL ks) (k0+1):=rfl;rw[hm];cases hb:eqI n a with
  | true =>
   rw[hb,cond_true] at h;exact .inl ⟨0,v,cv,rfl,by rw[e]; rfl,hv,h⟩
  | false =>
   rw[hb,cond_false] at h;rcases Y7b ks vs l' (k0+1) hR' h with ⟨j,v',cv',h1,h2,h3,h4⟩ | ⟨h1,h2⟩
   ·exact .inl ⟨j+1,v',cv',by rw[cond_false,h1]; congr 1; omega,by rw[e]; exact h2,h3,h4⟩
   ·exact .inr ⟨by rw[cond_false]; exact h1,h2⟩
 | _ :: _,.d _ _,_,_,_,h=>by cases h
 | _ :: _,.pr _ _,_,_,_,h=>by cases h
 | _ :: _,.one _,_,_,_,h=>by cases h
 | _ :: _,.nl,_,_,_,h=>by cases h
 | _ :: _,.sl _,_,_,_,h=>by cases h
 | _ :: _,.vw _ _ _ _,_,_,_,h=>by cases h
 | _ :: _,.ptr _ _,_,_,_,h=>by cases h
 | _ :: _,.va _ _ _ _,_,_,_,h=>by cases h
 | _ :: _,.nilp,_,_,_,h=>by cases h
 | _ :: _,.pv _ _,_,_,_,h=>by cases h
 | _ :: _,.mp _,_,_,_,h=>by cases h
 | _ :: _,.nilm,_,_,_,h=>by cases h
 | _ :: _,.fn _ _ _,_,_,_,h=>by cases h
 | _ :: _,.nilf,_,_,_,h=>by cases h
 | _ :: _,.ifc _ _,_,_,_,h=>by cases h
 | _ :: _,.yl _,_,_,_,h=>by cases h
 | _ :: _,.nili,_,_,_,h=>by cases h
 | _ :: _,.tu _,_,_,_,h=>by cases h
 | _ :: _,.nil,_,_,_,h=>by cases h
 | _ :: _,.dead,_,_,_,h=>by cases h
theorem Yan {t:TypeId} {i:TI} {x ix:Operand} {ok:Bool} (ho:o.op=.lookup t x ix ok) (hi:TIok P t i) (hI:Inv g X m w) (hf:FrOK g w (okB X g m) fr a.tmps)
  (h:(bif Nat.beq i.kind 6 && i.fmk then match (ev fr ix).data m (.int .i64),fmFor m (ev fr x) with
   | some n,some (_,ks,vs)=>fmSel n (bif ok then k (pairAV .nilf (.d .bool false)) m g.n else k .nilf m g.n) (fun v=>bif ok then k (pairAV v (.d .bool true)) m g.n else k v m g.n) ks vs
   | _,_=>none else none)=some r):OpR P X o a w g m k kp r:=by
 obtain ⟨h1,h⟩:=Y2j h;rw[ba9] at h1;obtain ⟨kt,vt,u1,u2⟩:=hi.map (eb9 h1.1);obtain ⟨hK,fi,ez,z1,z2,z3⟩:=u2.2.1 h1.2;have hz:=Yku z1 z2 w;have hx:=ev_ok hf x;have hix:=ev_ok hf ix
 have fin:∀ (y:AV) (b:Bool) (cv:Value),(bif ok then k (pairAV y (.d .bool b)) m g.n else k y m g.n)=some r->RV g w (okB X g m) y cv ->
   (Instr.lookup t (a.eval x) (a.eval ix) ok).run P w=.ok (if ok then .tuple #[cv,.bool b] else cv) w->OpR P X o a w g m k kp r:=by
  intro y b cv hk hrv hrun;cases ok with
  | true=>exact OpR.value (cv:=.tuple #[cv,.bool b]) (by unfold execOp; simp only[if_true] at hrun; simp[ho,hrun]) hk hI (Ye4 hrv (Y2w _)) (Ext.refl _ _ _)
  | false=>exact OpR.value (cv:=cv) (by unfold execOp; simp only[Bool.false_eq_true,if_false] at hrun; simp[ho,hrun]) hk hI hrv (Ext.refl _ _ _)
 split at h
 ·rename_i n τ ks vs hkey hm;have hdk:=Y54 hI hkey hix;obtain ⟨e1,e2,e3⟩:=Y77 hI hm hx;have hB:=hI.ok τ;rw[e1] at hB;obtain ⟨b1,es,cvs,b2,b3,b4,b5,b6⟩:=hB;have hlen:es.toList.length=(fmL ks).length:=by rw[Y79,Array.length_toList]; exact b3
  have hfind:=hK.find (vt:=.bool) w n (a.eval ix) (fmL ks) es.toList hdk hlen (fun j e p h1 h2=>by
   obtain ⟨n',hq,hp⟩:=Y78 ks j p h2;have:=(b4 j e n' (by simpa using h1) hq).2;rw[this,hp];exact ⟨g,w,okB X g m,int_mk _ _⟩)
  rcases Y7b (g:=g) (w:=w) ks vs cvs 0 b5 h with ⟨j,v,cv,q1,q2,q3,q4⟩ | ⟨q1,q2⟩
  ·rw[Nat.zero_add] at q1;have q1:mIdx (Ty.int .i64).beq n (fmL ks) 0=some j:=q1;rw[q1,Option.map_some] at hfind;rw[b6,List.getElem?_map] at q2;cases hq:es.toList[j]? with
   | none=>rw[hq] at q2; cases q2
   | some e =>
    rw[hq] at q2;have q2:e.val=cv:=by cases q2; rfl
    have hgd:es.toList.getD j default=e:=by rw[List.getD_eq_getElem?_getD,hq]; rfl
    rw[hgd] at hfind;refine fin v true cv q4 q3 ?_;simp[Instr.lookup,run_underlying u1,e3,MapKept.run_getObj_map b2,hK.chk _ _ _ _ hdk,hfind,q2,Result.andThen]
  ·have q1:mIdx (Ty.int .i64).beq n (fmL ks) 0=none:=q1;rw[q1,Option.map_none] at hfind;refine fin .nilf false ez q2 (z3 _ _ _) ?_;simp[Instr.lookup,run_underlying u1,e3,MapKept.run_getObj_map b2,hK.chk _ _ _ _ hdk,hfind,hz,Result.andThen]
 ·cases h
theorem Yao {t:TypeId} {i:TI} {x ix:Operand} {ok:Bool} (ho:o.op=.lookup t x ix ok) (hi:TIok P t i) (hI:Inv g X m w) (hf:FrOK g w (okB X g m) fr a.tmps)
  (h:(bif Nat.beq i.kind 6 && i.mky then match (ev fr ix).data m i.kty with
   | some key=>match ev fr x with
    | .nilm=>bif ok then k (pairAV (.d i.ety i.ety.zero) (.d .bool false)) m g.n else k (.d i.ety i.ety.zero) m g.n
    | v=>match mpFor m i.kty i.ety v with
     | some (_,l)=>bif ok then k (pairAV (.d i.ety (mlookK key l)) (.d .bool (mhasK key l))) m g.n else k (.d i.ety (mlookK key l)) m g.n
     | none=>none
   | none=>none else bif Nat.beq i.kind 6 && i.fmk then match (ev fr ix).data m (.int .i64),fmFor m (ev fr x) with
   | some n,some (_,ks,vs)=>fmSel n (bif ok then k (pairAV .nilf (.d .bool false)) m g.n else k .nilf m g.n) (fun v=>bif ok then k (pairAV v (.d .bool true)) m g.n else k v m g.n) ks vs
   | _,_=>none else none)=some r):OpR P X o a w g m k kp r:=by
 by_cases h1:(Nat.beq i.kind 6 && i.mky)=true
 case neg=>rw[Bool.of_not_eq_true h1] at h; exact Yan ho hi hI hf h
 rw[h1,cond_true] at h;rw[ba9] at h1;obtain ⟨kt,vt,u1,u2⟩:=hi.map (eb9 h1.1);obtain ⟨hK,fi,ez,z1,z2,z3⟩:=u2.1 h1.2;have hz:=Yku z1 z2 w;have hx:=ev_ok hf x;have hix:=ev_ok hf ix;split at h
 ·rename_i key hkey;have hdk:=Y54 hI hkey hix
  have fin:∀ (y:i.ety.T) (b:Bool) (cv:Value),(bif ok then k (pairAV (.d i.ety y) (.d .bool b)) m g.n else k (.d i.ety y) m g.n)=some r->RV g w (okB X g m) (.d i.ety y) cv ->
    (Instr.lookup t (a.eval x) (a.eval ix) ok).run P w=.ok (if ok then .tuple #[cv,.bool b] else cv) w->OpR P X o a w g m k kp r:=by
   intro y b cv hk hrv hrun;cases ok with
   | true=>exact OpR.value (cv:=.tuple #[cv,.bool b]) (by unfold execOp; simp only[if_true] at hrun; simp[ho,hrun]) hk hI (Ye4 hrv (Y2w _)) (Ext.refl _ _ _)
   | false=>exact OpR.value (cv:=cv) (by unfold execOp; simp only[Bool.false_eq_true,if_false] at hrun; simp[ho,hrun]) hk hI hrv (Ext.refl _ _ _)
  have mp:(match mpFor m i.kty i.ety (ev fr x) with
     | some (_,l)=>bif ok then k (pairAV (.d i.ety (mlookK key l)) (.d .bool (mhasK key l))) m g.n else k (.d i.ety (mlookK key l)) m g.n
     | none=>none)=some r->OpR P X o a w g m k kp r:=by
   intro h;split at h
   ·rename_i τ l hm;obtain ⟨e1,e2,e3⟩:=Ycb hI hm hx;have hB:=hI.ok τ;rw[e1] at hB;obtain ⟨b1,es,b2,b3,b4⟩:=hB
    have hfind:=hK.find w key (a.eval ix) l es.toList hdk (by simpa using b3) (fun j e p h1 h2=>by
     obtain ⟨_,g',q1,_⟩:=b4 j e p (by simpa using h1) h2;exact ⟨_,_,_,q1⟩)
    cases hidx:mIdx i.kty.beq key l 0 with
    | none =>
     obtain ⟨n1,n2,_⟩:=Yb2 (z:=i.ety.zero) hidx;refine fin _ _ ez h (by unfold mlookK; rw[n1]; exact z3 _ _ _) ?_;rw[hidx] at hfind;unfold mhasK;rw[n2];simp[Instr.lookup,run_underlying u1,e3,MapKept.run_getObj_map b2,hK.chk _ _ _ _ hdk,hfind,hz,Result.andThen]
    | some j =>
     obtain ⟨_,p,n1,n2,n3,n4,_⟩:=Yb3 (z:=i.ety.zero) hidx;rw[Nat.sub_zero] at n1;have hj:j < es.size:=by rw[b3]; exact (List.getElem?_eq_some_iff.1 n1).1
     obtain ⟨_,g',_,q2⟩:=b4 j es[j] p (by simp[hj]) n1;refine fin _ _ es[j].val h (by unfold mlookK; rw[n3]; exact Yp q2) ?_;rw[hidx] at hfind;have hgd:es.toList.getD j default=es[j]:=by simp[List.getD_eq_getElem?_getD,hj]
     rw[Option.map_some,hgd] at hfind;unfold mhasK;rw[n4];simp[Instr.lookup,run_underlying u1,e3,MapKept.run_getObj_map b2,hK.chk _ _ _ _ hdk,hfind,Result.andThen]
   ·cases h
  split at h
  ·rename_i hnil;rw[hnil] at hx;have e:=(List.cons.inj (hx.2 rfl)).1;refine fin _ _ ez h (z3 _ _ _) ?_;have hfind:=hK.find (vt:=i.ety) w key (a.eval ix) [] [] hdk rfl (fun j e p h1=>by simp at h1);simp only[mIdx,Option.map_none] at hfind;simp[Instr.lookup,run_underlying u1,e,hK.chk _ _ _ _ hdk,hfind,hz,Result.andThen]
  ·exact mp h
 ·cases h
def mapW (w:World) (b:Nat) (es:Array MapEntry) (c:Nat):World:={ w with heap:=w.heap.setIfInBounds b (.map es c) }
theorem Ybe (hI:Inv g X m w) {τ:Nat} {kt vt:Ty} {l l':List (kt.T × vt.T)} (hm:mget τ m=.mp kt vt l) {es es':Array MapEntry} (hh:w.heap[(g.loc τ).blk]?=some (.map es es.size)) (hlen:es'.size=l'.length)
  (hE:∀ j e p,es'[j]?=some e->l'[j]?=some p->EOK w (okB X g m) kt vt j e p) :
  Inv g X ((τ,.mp kt vt l') :: m) (mapW w (g.loc τ).blk es' es'.size)/\Ext g m w g ((τ,.mp kt vt l') :: m) (mapW w (g.loc τ).blk es' es'.size):=by
 have hB:=hI.ok τ;rw[hm] at hB;have hlive:Lv g m τ:=⟨by rw[hm]; rfl,hB.1⟩
 have hlt:=Yb1 hh;have hs:(mapW w (g.loc τ).blk es' es'.size).heap.size=w.heap.size:=by simp[mapW]
 have ho:∀ b,b ≠ (g.loc τ).blk->(mapW w (g.loc τ).blk es' es'.size).heap[b]?=w.heap[b]?:=fun b hb=>by
  simp[mapW,Array.getElem?_setIfInBounds_ne (Ne.symm hb)]
 have hat:(mapW w (g.loc τ).blk es' es'.size).heap[(g.loc τ).blk]?=some (.map es' es'.size):=by simp[mapW,hlt]
 have hx:=Ext.upd (B':=.mp kt vt l') hlive hs ho rfl rfl rfl;exact ⟨hI.upd hlive hs ho rfl rfl rfl ⟨hB.1,es',hat,hlen,fun j e p h1 h2=>Y5 hx.holds (hE j e p h1 h2)⟩,hx⟩
theorem eok_mk {kt vt:Ty} {x:kt.T} {y:vt.T} {j:Nat} {cx cy:Value} {ok:Nat->Prop} (hs:kt.hasSlice=false) (hx:DV kt x cx) (hy:RV g w ok (.d vt y) cy):EOK w ok kt vt j ⟨cx,cy,j⟩ (x,y):=by
 obtain ⟨g',w',ok',h⟩:=hx;refine ⟨rfl,g,?_,hy⟩;exact ⟨fun e=>let ⟨ds,e1,e2⟩:=h.1 e; ⟨ds,e1,Rd_freeM kt x ds hs e2⟩,fun e=>Rd_freeM kt x _ hs (h.2 e)⟩
where
 Rd_freeM {w w':World} {ok ok':Nat->Prop}:∀ (t:Ty) (x:t.T) (cs:List Value),t.hasSlice=false->Rd w ok t x cs->Rd w' ok' t x cs
 | .int k,n,cs,_,h1=>h1
 | .bool,b,cs,_,h1=>h1
 | .str,s,cs,_,h1=>h1
 | .pair a b,x,cs,hs,⟨c1,c2,e,h1,h2⟩=>by
  simp only[Ty.hasSlice,Bool.or_eq_false_iff] at hs;exact ⟨c1,c2,e,Rd_freeM a _ _ hs.1 h1,Rd_freeM b _ _ hs.2 h2⟩
 | .one a,x,cs,hs,h1=>Rd_freeM a x cs hs h1
 | .slice t,l,cs,hs,_=>by cases hs
 | .arr n t,l,cs,hs,⟨hl,h1⟩=>⟨hl,Yz (fun x cs=>Rd_freeM t x cs hs) _ _ h1⟩
theorem Yf2 {kt vt:Ty} {ok:Nat->Prop} (hs:kt.hasSlice=false) {l:List (kt.T × vt.T)} {es:Array MapEntry} (b3:es.size=l.length) (b4:∀ j e p,es[j]?=some e->l[j]?=some p->EOK w ok kt vt j e p) {x:kt.T} {cx:Value} (hx:DV kt x cx) {y:vt.T} {cy:Value}
  (hy:RV g w ok (.d vt y) cy):(∀ j,mIdx kt.beq x l 0=some j->∀ j' e p,(es.modify j (fun e=>{ e with key:=cx,val:=cy }))[j']?=some e->(mputK x y l)[j']?=some p->EOK w ok kt vt j' e p) /\
   (mIdx kt.beq x l 0=none->∀ j' e p,(es.push ⟨cx,cy,es.size⟩)[j']?=some e->(mputK x y l)[j']?=some p->EOK w ok kt vt j' e p):=by
 refine ⟨fun j hj j' e p h1 h2=>?_,fun hj j' e p h1 h2=>?_⟩
 ·obtain ⟨_,q,n1,n2,n3,n4,n5,n6⟩:=Yb3 (z:=vt.zero) hj;rw[Nat.sub_zero] at n1 n6;have h2:(mput kt.beq x y l)[j']?=some p:=h2;rw[n6 y] at h2;rw[Array.getElem?_modify] at h1;by_cases e':j=j'
  ·subst e';rw[if_pos rfl] at h1;have hjl:=(List.getElem?_eq_some_iff.1 n1).1;rw[List.getElem?_set,if_pos rfl,if_pos hjl] at h2;cases h2;have hje:j < es.size:=by omega
   rw[Array.getElem?_eq_getElem hje] at h1;cases h1;have hb:=(b4 j es[j] q (by simp[hje]) n1).1;have:=eok_mk (j:=j) hs hx hy;obtain ⟨_,g',r1,r2⟩:=this;exact ⟨hb,g',r1,r2⟩
  ·rw[if_neg e'] at h1;rw[List.getElem?_set,if_neg e'] at h2;exact b4 j' e p h1 h2
 ·obtain ⟨n1,n2,n3,n4⟩:=Yb2 (z:=vt.zero) hj;have h2:(mput kt.beq x y l)[j']?=some p:=h2;rw[n4 y] at h2;rw[Array.getElem?_push] at h1;by_cases e':j'=es.size
  ·rw[if_pos e'] at h1;cases h1;rw[e',b3,List.getElem?_append_right (Nat.le_refl _),Nat.sub_self] at h2;cases h2;rw[e'];exact eok_mk hs hx hy
  ·rw[if_neg e'] at h1;have:j' < es.size:=(Array.getElem?_eq_some_iff.1 h1).1;rw[List.getElem?_append_left (by omega)] at h2;exact b4 j' e p h1 h2
theorem Ycg {κ α:Type} {eq:κ->κ->Bool} {x:κ} {v:α}:∀ {l:List (κ × α)},(mput eq x v l).length=if (mIdx eq x l 0).isSome then l.length else l.length+1:=by
 intro l;cases h:mIdx eq x l 0 with
 | none=>obtain ⟨_,_,_,n4⟩:=Yb2 (z:=v) h; rw[n4]; simp
 | some j=>obtain ⟨_,_,_,_,_,_,_,n6⟩:=Yb3 (z:=v) h; rw[n6]; simp
theorem Ybf {t:TypeId} {i:TI} (hi:TIok P t i) (h1:(Nat.beq i.kind 6 && i.mky)=true) (hI:Inv g X m w) {cv ck cy:Value} {key:i.kty.T} (hk:DV i.kty key ck) {y:i.ety.T} (hy:RV g w (okB X g m) (.d i.ety y) cy) {τ:Nat} {l:List (i.kty.T × i.ety.T)}
  (e1:mget τ m=.mp i.kty i.ety l) (e3:cv=.map (some (g.loc τ).blk)):∃ w',(Instr.mapUpdate t cv ck cy).run P w=.ok () w'/\Inv g X ((τ,.mp i.kty i.ety (mputK key y l)) :: m) w'/\Ext g m w g ((τ,.mp i.kty i.ety (mputK key y l)) :: m) w':=by
 rw[ba9] at h1;obtain ⟨kt,vt,u1,u2⟩:=hi.map (eb9 h1.1);obtain ⟨hK,fi,ez,z1,z2,z3⟩:=u2.1 h1.2;have hB:=hI.ok τ;rw[e1] at hB;obtain ⟨b1,es,b2,b3,b4⟩:=hB
 have hfind:=hK.find w key ck l es.toList hk (by simpa using b3) (fun j e p h1 h2=>by
  obtain ⟨_,g',q1,_⟩:=b4 j e p (by simpa using h1) h2;exact ⟨_,_,_,q1⟩)
 obtain ⟨p1,p2⟩:=Yf2 hK.sl b3 b4 hk hy;subst e3;cases hidx:mIdx i.kty.beq key l 0 with
 | none =>
  rw[hidx] at hfind
  have hlen:(es.push ⟨ck,cy,es.size⟩).size=(mputK key y l).length:=by
   have:(mputK key y l).length=_:=Ycg;rw[this,hidx]; simp[b3]
  obtain ⟨i1,x1⟩:=Ybe hI e1 b2 hlen (p2 hidx);refine ⟨_,?_,i1,x1⟩;simp[Instr.mapUpdate,run_underlying u1,MapKept.run_getObj_map b2,hK.chk _ _ _ _ hk,hfind,MapKept.run_setObj_map _ b2,Result.andThen,mapW]
 | some j =>
  rw[hidx] at hfind;obtain ⟨_,q,n1,n2,_⟩:=Yb3 (z:=i.ety.zero) hidx;rw[Nat.sub_zero] at n1;have hj:j < es.size:=by rw[b3]; exact (List.getElem?_eq_some_iff.1 n1).1
  have hgd:es.toList.getD j default=es[j]:=by simp[List.getD_eq_getElem?_getD,hj]
  rw[Option.map_some,hgd] at hfind;obtain ⟨_,g',q1,_⟩:=b4 j es[j] q (by simp[hj]) n1;obtain ⟨st,_⟩:=Yj7 (P:=P) hK.sl hk ⟨_,_,_,q1⟩ n2 w
  have hlen:(es.modify j (fun e=>{ e with key:=ck,val:=cy })).size=(mputK key y l).length:=by
   have:(mputK key y l).length=_:=Ycg;rw[this,hidx]; simp[b3]
  obtain ⟨i1,x1⟩:=Ybe hI e1 b2 hlen (p1 j hidx);refine ⟨_,?_,i1,x1⟩;simp[Instr.mapUpdate,run_underlying u1,MapKept.run_getObj_map b2,hK.chk _ _ _ _ hk,hfind,hj,st,MapKept.run_setObj_map _ b2,Result.andThen,mapW]
theorem Yn {ok:Nat->Prop} {v:AV} {cv:Value} (hv:RV g w ok v cv):∀ (vs:AV) (cvs:List Value),RL g w ok vs cvs->RL g w ok (vs.snoc v) (cvs++[cv])
 | .nil,cvs,h=>by
  have h:cvs=[]:=h;subst h;exact ⟨cv,[],rfl,hv,rfl⟩
 | .cons a b,cvs,⟨c,l',e,h1,h2⟩=>⟨c,l'++[cv],by rw[e]; rfl,h1,Yn hv b l' h2⟩
 | .d _ _,_,h=>h.elim
 | .pr _ _,_,h=>h.elim
 | .one _,_,h=>h.elim
 | .nl,_,h=>h.elim
 | .sl _,_,h=>h.elim
 | .vw _ _ _ _,_,h=>h.elim
 | .ptr _ _,_,h=>h.elim
 | .va _ _ _ _,_,h=>h.elim
 | .nilp,_,h=>h.elim
 | .pv _ _,_,h=>h.elim
 | .mp _,_,h=>h.elim
 | .nilm,_,h=>h.elim
 | .fn _ _ _,_,h=>h.elim
 | .nilf,_,h=>h.elim
 | .ifc _ _,_,h=>h.elim
 | .yl _,_,h=>h.elim
 | .nili,_,h=>h.elim
 | .tu _,_,h=>h.elim
 | .dead,_,h=>h.elim
theorem Y8h {n:Int}:∀ (ks:List Int) (k0:Nat),hasI n ks=false->mIdx (Ty.int .i64).beq n (fmL ks) k0=none
 | [],_,_=>rfl
 | a :: ks,k0,h=>by
  simp only[hasI] at h;have hm:mIdx (Ty.int .i64).beq n (fmL (a :: ks)) k0=bif eqI n a then some k0 else mIdx (Ty.int .i64).beq n (fmL ks) (k0+1):=rfl;rw[hm];cases hb:eqI n a with
  | true=>rw[hb] at h; cases h
  | false=>rw[hb] at h; rw[cond_false]; exact Y8h ks _ h
theorem Ybc {t:TypeId} {i:TI} {x kk v:Operand} (ho:o.op=.mapUpdate t x kk v \/ o.op=.insert t x kk v) (hi:TIok P t i) (hI:Inv g X m w) (hf:FrOK g w (okB X g m) fr a.tmps)
  (h:(bif Nat.beq i.kind 6 && i.fmk then match (ev fr kk).data m (.int .i64),fmFor m (ev fr x) with
   | some n,some (τ,ks,vs)=>bif !hasI n ks && (ev fr v).isFn then k .dead ((τ,.fm (snocI ks n) (vs.snoc (ev fr v))) :: m) g.n else none
   | _,_=>none else none)=some r):OpR P X o a w g m k kp r:=by
 obtain ⟨h1,h⟩:=Y2j h;rw[ba9] at h1;obtain ⟨kt,vt,u1,u2⟩:=hi.map (eb9 h1.1);obtain ⟨hK,fi,ez,z1,z2,z3⟩:=u2.2.1 h1.2;split at h
 ·rename_i n1 τ ks vs hkey hm;obtain ⟨n,hn⟩:∃ n:Int,n=n1:=⟨n1,rfl⟩
  subst hn;obtain ⟨h2,h⟩:=Y2j h;rw[ba9,Bool.not_eq_true'] at h2;have hdk:=Y54 hI hkey (ev_ok hf kk);have hkv:a.eval kk=.int .i64 n:=Y9b (Y58 (fun τ=>hI.ok τ) hkey (Y53 hkey) (ev_ok hf kk));have hvv:=ev_ok hf v;obtain ⟨e1,e2,e3⟩:=Y77 hI hm (ev_ok hf x);have hB:=hI.ok τ;rw[e1] at hB;obtain ⟨b1,es,cvs,b2,b3,b4,b5,b6⟩:=hB;have hlen:es.toList.length=(fmL ks).length:=by rw[Y79,Array.length_toList]; exact b3
  have hfind:=hK.find (vt:=.bool) w n (a.eval kk) (fmL ks) es.toList hdk hlen (fun j e p h1 h2=>by
   obtain ⟨n',hq,hp⟩:=Y78 ks j p h2;have:=(b4 j e n' (by simpa using h1) hq).2;rw[this,hp];exact ⟨g,w,okB X g m,int_mk _ _⟩)
  rw[Y8h ks 0 h2.1,Option.map_none] at hfind;have hlive:Lv g m τ:=⟨by rw[e1]; rfl,b1⟩
  have hlt:=Yb1 b2;rw[Yir] at h;obtain ⟨es',hes⟩:∃ es',es'=es.push ⟨a.eval kk,a.eval v,es.size⟩:=⟨_,rfl⟩
  have hsz:es'.size=es.size+1:=by rw[hes]; simp
  have hs:(mapW w (g.loc τ).blk es' es'.size).heap.size=w.heap.size:=by simp[mapW]
  have hoth:∀ b,b ≠ (g.loc τ).blk->(mapW w (g.loc τ).blk es' es'.size).heap[b]?=w.heap[b]?:=fun b hb=>by
   simp[mapW,Array.getElem?_setIfInBounds_ne (Ne.symm hb)]
  have hat:(mapW w (g.loc τ).blk es' es'.size).heap[(g.loc τ).blk]?=some (.map es' es'.size):=by simp[mapW,hlt]
  have hxx:Ext g m w g ((τ,.fm (ks++[n]) (vs.snoc (ev fr v))) :: m) (mapW w (g.loc τ).blk es' es'.size):=Ext.upd hlive hs hoth rfl rfl rfl
  have hI':Inv g X ((τ,.fm (ks++[n]) (vs.snoc (ev fr v))) :: m) (mapW w (g.loc τ).blk es' es'.size):=by
   refine hI.upd hlive hs hoth rfl rfl rfl ⟨b1,es',cvs++[a.eval v],hat,by rw[hsz,b3]; simp,fun j e n' h1 h2=>?_,?_,?_⟩
   ·rw[hes,Array.getElem?_push] at h1;by_cases ej:j=es.size
    ·rw[if_pos ej] at h1;cases h1;rw[ej,b3,List.getElem?_append_right (Nat.le_refl _),Nat.sub_self] at h2;cases h2;exact ⟨ej.symm,hkv⟩
    ·rw[if_neg ej] at h1;have:j < es.size:=(Array.getElem?_eq_some_iff.1 h1).1;rw[List.getElem?_append_left (by omega)] at h2;exact b4 j e n' h1 h2
   ·exact Yl (GExt.refl g) hxx.holds _ _ (Yn hvv vs cvs b5)
   ·rw[hes,b6]; simp
  have hr:(Instr.mapUpdate t (a.eval x) (a.eval kk) (a.eval v)).run P w=.ok () (mapW w (g.loc τ).blk es' es'.size):=by
   rw[hes];simp[Instr.mapUpdate,run_underlying u1,e3,MapKept.run_getObj_map b2,hK.chk _ _ _ _ hdk,hfind,MapKept.run_setObj_map _ b2,Result.andThen,mapW]
  refine OpR.skip ?_ h hI' hxx;unfold execOp;rcases ho with ho | ho <;> simp[ho,hr]
 ·cases h
theorem Ybd {t:TypeId} {i:TI} {x kk v:Operand} (ho:o.op=.mapUpdate t x kk v \/ o.op=.insert t x kk v) (hi:TIok P t i) (hI:Inv g X m w) (hf:FrOK g w (okB X g m) fr a.tmps)
  (h:(bif Nat.beq i.kind 6 && i.mky then match (ev fr kk).data m i.kty,(ev fr v).data (frzL (ev fr v).toks m) i.ety,mpFor (frzL (ev fr v).toks m) i.kty i.ety (ev fr x) with
   | some key,some y,some (τ,l)=>k .dead ((τ,.mp i.kty i.ety (mputK key y l)) :: frzL (ev fr v).toks m) g.n
   | _,_,_=>none else bif Nat.beq i.kind 6 && i.fmk then match (ev fr kk).data m (.int .i64),fmFor m (ev fr x) with
   | some n,some (τ,ks,vs)=>bif !hasI n ks && (ev fr v).isFn then k .dead ((τ,.fm (snocI ks n) (vs.snoc (ev fr v))) :: m) g.n else none
   | _,_=>none else none)=some r):OpR P X o a w g m k kp r:=by
 by_cases h1:(Nat.beq i.kind 6 && i.mky)=true
 case neg=>rw[Bool.of_not_eq_true h1] at h; exact Ybc ho hi hI hf h
 rw[h1,cond_true] at h;obtain ⟨hI1,hx1⟩:=Inv.frzL (ev fr v).toks hI;split at h
 ·rename_i key y τ l hk hy hm;have hdk:=Y54 hI hk (ev_ok hf kk);have hf1:=FrOK.mono hx1.gx (hx1.holds (X:=X)) hf;have hyv:=Y58 (fun τ=>hI1.ok τ) hy (Y53 hy) (ev_ok hf1 v);obtain ⟨e1,e2,e3⟩:=Ycb hI1 hm (ev_ok hf1 x);obtain ⟨w',r1,r2,r3⟩:=Ybf hi h1 hI1 hdk hyv e1 e3;refine OpR.skip ?_ h r2 (hx1.trans r3);unfold execOp;rcases ho with ho | ho <;> simp[ho,r1]
 ·cases h
theorem Ybb {t:TypeId} {i:TI} {x kk:Operand} (ho:o.op=.mapEntry t x kk) (hi:TIok P t i) (hI:Inv g X m w) (hf:FrOK g w (okB X g m) fr a.tmps)
  (h:(bif Nat.beq i.kind 6 && i.mky then match (ev fr kk).data m i.kty,mpFor m i.kty i.ety (ev fr x) with
   | some key,some (τ,l)=>k (pairAV (.d i.ety (mlookK key l)) (.d (.int .i64) (natI (mposK key l)))) ((τ,.mp i.kty i.ety (mputK key (mlookK key l) l)) :: m) g.n
   | _,_=>none else none)=some r):OpR P X o a w g m k kp r:=by
 obtain ⟨h1,h⟩:=Y2j h;rw[ba9] at h1;obtain ⟨kt,vt,u1,u2⟩:=hi.map (eb9 h1.1);obtain ⟨hK,fi,ez,z1,z2,z3⟩:=u2.1 h1.2;split at h
 ·rename_i key τ l hk hm;have hdk:=Y54 hI hk (ev_ok hf kk);obtain ⟨e1,e2,e3⟩:=Ycb hI hm (ev_ok hf x);have hB:=hI.ok τ;rw[e1] at hB;obtain ⟨b1,es,b2,b3,b4⟩:=hB
  have hfind:=hK.find w key (a.eval kk) l es.toList hdk (by simpa using b3) (fun j e p h1 h2=>by
   obtain ⟨_,g',q1,_⟩:=b4 j e p (by simpa using h1) h2;exact ⟨_,_,_,q1⟩)
  cases hidx:mIdx i.kty.beq key l 0 with
  | none =>
   rw[hidx] at hfind;obtain ⟨n1,n2,n3,n4⟩:=Yb2 (z:=i.ety.zero) hidx;have hzv:RV g w (okB X g m) (.d i.ety (mlookK key l)) ez:=by unfold mlookK; rw[n1]; exact z3 _ _ _
   obtain ⟨p1,p2⟩:=Yf2 hK.sl b3 b4 hdk hzv
   have hlen:(es.push ⟨a.eval kk,ez,es.size⟩).size=(mputK key (mlookK key l) l).length:=by
    have:(mputK key (mlookK key l) l).length=_:=Ycg;rw[this,hidx]; simp[b3]
   obtain ⟨i1,x1⟩:=Ybe hI e1 b2 hlen (p2 hidx);refine OpR.value (cv:=.tuple #[ez,goInt es.size]) ?_ h i1 (Ye4 (Yt x1.gx x1.holds hzv) ?_) x1
   ·unfold execOp;simp[ho,Instr.mapEntry,run_underlying u1,e3,MapKept.run_getObj_map b2,hK.chk _ _ _ _ hdk,hfind,Yku z1 z2,MapKept.run_setObj_map _ b2,Result.andThen,mapW]
   ·have:mposK key l=es.size:=by unfold mposK; rw[n3,b3]
    rw[this]; exact int_mk _ _
  | some j =>
   rw[hidx] at hfind;obtain ⟨_,q,n1,n2,n3,n4,n5,n6⟩:=Yb3 (z:=i.ety.zero) hidx;rw[Nat.sub_zero] at n1 n5;have hj:j < es.size:=by rw[b3]; exact (List.getElem?_eq_some_iff.1 n1).1
   have hgd:es.toList.getD j default=es[j]:=by simp[List.getD_eq_getElem?_getD,hj]
   rw[Option.map_some,hgd] at hfind;obtain ⟨hborn,g',q1,q2⟩:=b4 j es[j] q (by simp[hj]) n1;obtain ⟨st,hkeq⟩:=Yj7 (P:=P) hK.sl hdk ⟨_,_,_,q1⟩ n2 w;have hvv:RV g w (okB X g m) (.d i.ety (mlookK key l)) es[j].val:=by unfold mlookK; rw[n3]; exact Yp q2
   obtain ⟨p1,p2⟩:=Yf2 hK.sl b3 b4 hdk hvv
   have hmod:es.modify j (fun e=>{ e with key:=a.eval kk })=es.modify j (fun e=>{ e with key:=a.eval kk,val:=es[j].val }):=by
    apply Array.ext_getElem?
    intro i';rw[Array.getElem?_modify,Array.getElem?_modify];split
    ·rename_i e; subst e; simp[hj]
    ·rfl
   have hlen:(es.modify j (fun e=>{ e with key:=a.eval kk,val:=es[j].val })).size=(mputK key (mlookK key l) l).length:=by
    have:(mputK key (mlookK key l) l).length=_:=Ycg;rw[this,hidx]; simp[b3]
   obtain ⟨i1,x1⟩:=Ybe hI e1 b2 hlen (p1 j hidx);refine OpR.value (cv:=.tuple #[es[j].val,goInt j]) ?_ h i1 (Ye4 (Yt x1.gx x1.holds hvv) ?_) x1
   ·unfold execOp;simp[ho,Instr.mapEntry,run_underlying u1,e3,MapKept.run_getObj_map b2,hK.chk _ _ _ _ hdk,hfind,hj,st,hborn,MapKept.run_setObj_map _ b2,Result.andThen,mapW,<- hmod]
   ·have:mposK key l=j:=by unfold mposK; rw[n5]
    rw[this]; exact int_mk _ _
 ·cases h
theorem Yci {κ α:Type}:∀ (l:List (κ × α)) (n:Nat) (v:α) (j:Nat) (p:κ × α),(mset l n v)[j]?=some p->∃ q,l[j]?=some q/\p=(q.1,if j=n then v else q.2)
 | [],n,v,j,p,h=>by simp[mset] at h
 | q :: l,0,v,j,p,h=>by
  cases j with
  | zero=>simp[mset] at h; exact ⟨q,rfl,by simp[h]⟩
  | succ j=>simp only[mset,List.getElem?_cons_succ] at h; exact ⟨p,by simpa using h,by simp⟩
 | q :: l,n+1,v,j,p,h=>by
  cases j with
  | zero=>simp[mset] at h; exact ⟨q,rfl,by simp[h]⟩
  | succ j =>
   simp only[mset,List.getElem?_cons_succ] at h;obtain ⟨q',h1,h2⟩:=Yci l n v j p h;exact ⟨q',by simpa using h1,by rw[h2]; simp⟩
theorem Ycj {κ α:Type}:∀ (l:List (κ × α)) (n:Nat) (v:α),(mset l n v).length=l.length
 | [],n,v=>rfl
 | q :: l,0,v=>rfl
 | q :: l,n+1,v=>by simp[mset,Ycj l n v]
theorem Y6t {es:Array MapEntry} {n:Int} (h0:0 <= n) (h1:n.toNat < es.size) (hb:∀ j (hj:j < es.size),(es[j]).born=j):es.findIdx? (fun e=>(e.born:Int) == n)=some n.toNat:=by
 rw[Array.findIdx?_eq_some_iff_getElem];refine ⟨h1,?_,fun j hlt=>?_⟩
 ·rw[hb _ h1]; simp; omega
 ·rw[hb j (by omega)]; simp; omega
theorem Y67 {t:TypeId} {b:Nat} {es:Array MapEntry} {n:Int} {kd:IntKind} {cy:Value} (hh:w.heap[b]?=some (.map es es.size)) (hfi:es.findIdx? (fun e=>(e.born:Int) == n)=some n.toNat) :
  (Instr.entryStore t (.map (some b)) (.int kd n) cy).run P w=.ok () (mapW w b (es.modify n.toNat (fun e=>{ e with val:=cy })) (es.modify n.toNat (fun e=>{ e with val:=cy })).size):=by
 simp[Instr.entryStore,MapKept.run_getObj_map hh,asInt,asIntOf,hfi,MapKept.run_setObj_map _ hh,Result.andThen,mapW]
theorem Y66 {t:TypeId} {i:TI} {x s v:Operand} (ho:o.op=.entryStore t x s v) (hi:TIok P t i) (hI:Inv g X m w) (hf:FrOK g w (okB X g m) fr a.tmps)
  (h:(bif Nat.beq i.kind 6 && i.mky then match ev fr s,(ev fr v).data (frzL (ev fr v).toks m) i.ety,mpFor (frzL (ev fr v).toks m) i.kty i.ety (ev fr x) with
   | .d (.int _) n,some y,some (τ,l)=>req (inb n l.length) (k .dead ((τ,.mp i.kty i.ety (mset l (toN n) y)) :: frzL (ev fr v).toks m) g.n)
   | _,_,_=>none else none)=some r):OpR P X o a w g m k kp r:=by
 obtain ⟨h1,h⟩:=Y2j h;obtain ⟨hI1,hx1⟩:=Inv.frzL (ev fr v).toks hI;have hf1:=FrOK.mono hx1.gx (hx1.holds (X:=X)) hf;split at h
 ·rename_i kd n y τ l hs hy hm;obtain ⟨hin,h⟩:=Yft h;obtain ⟨n0,n1⟩:=Y8s hin;have hsv:=ev_ok hf1 s;rw[hs] at hsv;have hsv:=Y9b hsv;have hyv:=Y58 (fun τ=>hI1.ok τ) hy (Y53 hy) (ev_ok hf1 v);obtain ⟨e1,e2,e3⟩:=Ycb hI1 hm (ev_ok hf1 x);have hB:=hI1.ok τ;rw[e1] at hB;obtain ⟨b1,es,b2,b3,b4⟩:=hB;have hj:n.toNat < es.size:=by omega
  have hborn:∀ j (hj:j < es.size),(es[j]).born=j:=fun j hj=>by
   have:j < l.length:=by omega
   exact (b4 j es[j] l[j] (by simp[hj]) (by simp[this])).1
  have hfi:=Y6t n0 hj hborn;have hlen:(es.modify n.toNat (fun e=>{ e with val:=a.eval v })).size=(mset l (toN n) y).length:=by rw[Ycj]; simp[b3]
  have hE:∀ j e p,(es.modify n.toNat (fun e=>{ e with val:=a.eval v }))[j]?=some e->(mset l (toN n) y)[j]?=some p->EOK w (okB X g (frzL (ev fr v).toks m)) i.kty i.ety j e p:=by
   intro j e p h1 h2;obtain ⟨q,q1,q2⟩:=Yci _ _ _ _ _ h2;rw[Array.getElem?_modify] at h1;unfold toN at q2;by_cases ej:n.toNat=j
   ·subst ej;rw[if_pos rfl,Array.getElem?_eq_getElem hj] at h1;cases h1;obtain ⟨c1,g',c2,c3⟩:=b4 n.toNat es[n.toNat] q (by simp[hj]) q1;rw[if_pos rfl] at q2;subst q2;exact ⟨c1,g',c2,Yp hyv⟩
   ·rw[if_neg ej] at h1;rw[if_neg (fun e=>ej e.symm)] at q2;subst q2;exact b4 j e q h1 q1
  obtain ⟨i1,x1⟩:=Ybe hI1 e1 b2 hlen hE;refine OpR.skip ?_ h i1 (hx1.trans x1);have hr:=Y67 (P:=P) (t:=t) (kd:=kd) (cy:=a.eval v) b2 hfi;rw[<- hsv,<- e3] at hr;unfold execOp;simp[ho,hr]
 ·cases h
theorem Y3t {c:Call} {x:Operand} {t:TypeId} {i:TI} (ho:o.op=.call c) (hc:c.callee=.builtin .clear) (ha:c.args.toList=[x]) (htt:c.argTypes.toList=[t]) (hi:TIok P t i) (hI:Inv g X m w)
  (hf:FrOK g w (okB X g m) fr a.tmps) (hb:Nat.beq i.kind 2=true) {τ lo n:Nat} {xs:List i.ety.T} (hx:dstFor m i.ety (ev fr x)=some (τ,lo,n,xs))
  (h:k (.tu .nil) ((τ,.row i.ety (over xs (List.replicate n i.ety.zero) lo n)) :: m) g.n=some r):OpR P X o a w g m k kp r:=by
 obtain ⟨e,fi,ez,k1,k2,k3,k4,k5,k6,k7,k8⟩:=hi.slice (eb9 hb);have hxv:=ev_ok hf x;have hez:ez.cells.size=i.ety.size:=by have:=Rd_len w (fun _=>True) _ _ _ (k6 w (fun _=>True)); simpa using this
 have hzc:Builtin.zeroCells ez.cells n=madeCells ez.cells (n * i.ety.size):=by unfold Builtin.zeroCells madeCells; rw[hez]
 obtain ⟨news,hnw⟩:∃ news,news=(madeCells ez.cells (n * i.ety.size)).toList:=⟨_,rfl⟩
 obtain ⟨ys,hys⟩:∃ ys,ys=List.replicate n i.ety.zero:=⟨_,rfl⟩
 have n1:RdL (Rd w (okB X g m) i.ety) ys news:=by rw[hys,hnw]; exact Yy (k6 w _) hez n
 have nlen:news.length=n * i.ety.size:=by rw[hnw]; simp[size_madeCells]
 have n2one:∀ v ∈ news,v.oneCell'=true:=Y10 (fun x cs h=>Rd_one w (okB X g m) i.ety x cs h) _ _ n1;rw[<- hys] at h;obtain ⟨hm,hrow⟩:=Y5n hI hx hxv;have ea:c.args=#[x]:=by apply Array.toList_inj.1; simpa using ha
 have et:c.argTypes=#[t]:=by apply Array.toList_inj.1; simpa using htt
 have fin:∀ v w',(Builtin.clear_ #[t] o.type #[a.eval x]).run P w=.ok v w'->(execOp a.eval o).run P w=.ok (.value v) w':=by
  intro v w' hr;unfold execOp;simp[ho,resolve,hc,ea,et,invoke,builtin,hr]
 have hR:=fun x cs h=>Rd_len w (okB X g m) i.ety x cs h
 have hq:n <= ys.length:=by rw[hys]; simp
 have hqn:n <= n:=Nat.le_refl _;have hyn:ys.length=n:=by rw[hys]; simp
 have hfit:=hrow.fit;obtain ⟨ad,hcv,hval⟩:=hrow.val;have hlv0:(mget τ m).live=true:=by rw[hm]; rfl
 rcases hval with ⟨p1,rfl,p3,rfl⟩ | ⟨p1,off,cc,ee,cells,rfl,p2,p3,p4,p5,p6,p7⟩
 ·have hl0:=hrow.len;simp at hfit;have hq0:n=0:=hfit.2;subst hq0;have hov:over ([]:List i.ety.T) ys lo 0=[]:=by unfold over; simp
  rw[hov] at h;have hB:=hI.ok τ
  -- the row is nil: nothing is written
  have hxx:Ext g m w g ((τ,.row i.ety []) :: m) w:=⟨GExt.refl g,fun _ h=>.inl h,Nat.le_refl _,fun _ _ _=>rfl,fun b hb=>.inl (hb.imp (fun ⟨σ,⟨q1,q1'⟩,q2⟩=>by
   rw[Ybs] at q1;by_cases e:τ=σ
   ·subst e; rw[p1] at q1'; cases q1'
   ·rw[if_neg e] at q1; exact ⟨σ,⟨q1,q1'⟩,q2⟩) (MoLe.cons (fun _=>rfl) rfl).own),rfl,rfl,rfl⟩
  have hmg:∀ σ,mget σ ((τ,.row i.ety []) :: m)=mget σ m:=by
   intro σ;rw[Ybs];split
   ·rename_i e; subst e; exact hm.symm
   ·rfl
  have hI':Inv g X ((τ,.row i.ety []) :: m) w:=by
   have lv:∀ σ,Lv g ((τ,.row i.ety []) :: m) σ ↔ Lv g m σ:=fun σ=>by unfold Lv; rw[hmg]
   refine hI.step hxx (fun σ=>?_) (fun σ σ' k1 k2 k3=>hI.inj σ σ' ((lv σ).1 k1) ((lv σ').1 k2) k3) (fun σ k1=>hI.far σ ((lv σ).1 k1)) (fun σ k1=>by rw[hmg]; exact hI.fresh σ k1) hI.dlt (MoLe.cons (fun _=>rfl) rfl) (fun σ k=>.inl ⟨σ,(lv σ).1 k,rfl⟩);by_cases hd:g.dom σ
   ·exact .inl ⟨hd,hmg σ,fun _=>rfl,fun _ _=>rfl⟩
   ·right; rw[hmg,hI.fresh σ hd]; trivial
  refine OpR.value (cv:=.tuple #[]) (fin _ _ ?_) h hI' ⟨fun h=>(by cases h),fun _=>⟨[],rfl,rfl⟩⟩ hxx;simp[Builtin.clear_,run_underlying k1,hcv]
 ·have hsz:fi.size=i.ety.size:=k3;have hl0:=hrow.len;have hc0:=hrow.cap
  have hnews:(news.take (n * i.ety.size)).length=n * i.ety.size:=by
   rw[List.length_take,nlen];have:=Nat.mul_le_mul_right i.ety.size hq;omega
  have hqm:n * i.ety.size <= ((g.loc τ).cap - lo) * i.ety.size:=Nat.mul_le_mul_right _ (by omega);have hst:=run_storeCells_at P (g.loc τ).blk off ee (news.take (n * i.ety.size)) 0 cc w p4 (by rw[hnews]; omega) (fun v hv=>n2one v (List.mem_of_mem_take hv));simp only[Nat.add_zero] at hst;generalize hN:(cc.toList.take off++news.take (n * i.ety.size)++cc.toList.drop (off+(news.take (n * i.ety.size)).length))=nc at hst;rw[hnews] at hN
  have hncl:nc.length=cc.size:=by
   rw[<- hN]; simp only[ln9,List.length_take,List.length_drop,Array.length_toList] at hnews ⊢; omega
  have hlive:Lv g m τ:=⟨hlv0,p1⟩
  have hoth:∀ b,b ≠ (g.loc τ).blk->(w.setRow (g.loc τ).blk nc.toArray).heap[b]?=w.heap[b]?:=fun b hb=>setRow_other w _ b _ hb
  have hh':=setRow_heap w (g.loc τ).blk cc nc.toArray ee _ p4;have hs:=Yhv w (g.loc τ).blk nc.toArray;have hx':=Ext.upd (B':=.row i.ety (over xs ys lo n)) hlive hs hoth rfl rfl rfl;have hcells:=Yx hR xs cells p5;have hovl:(over xs ys lo n).length=xs.length:=Ydy (by omega) hq;have hmul1:=Nat.mul_le_mul_right i.ety.size (show lo+n <= xs.length by omega);rw[Nat.add_mul] at hmul1;refine OpR.value (cv:=.tuple #[]) (fin _ _ ?_) h (hI.upd hlive hs hoth rfl rfl rfl ?_) ⟨fun h=>(by cases h),fun _=>⟨[],rfl,rfl⟩⟩ hx'
  ·have htk:news.take (n * i.ety.size)=news:=List.take_of_length_le (by omega);rw[htk] at hst;cases n with
   | zero =>
    have:news=[]:=List.eq_nil_of_length_eq_zero (by rw[nlen]; omega);rw[this] at hst;simp[storeCells,Sem.run_pure] at hst;rw[<- hst];simp[Builtin.clear_,run_underlying k1,hcv]
   | succ n =>
    have hzn:(Builtin.zeroCells ez.cells (n+1)).toList=news:=by rw[hzc,hnw]
    rw[hcv];simp only[Builtin.clear_];simp[run_underlying k1,zeroValue,typeInfo,k2,k5,hzn,hst]
  ·have hrd:RdL (Rd w (okB X g m) i.ety) (over xs ys lo n) (cells.take (lo * i.ety.size)++news.take (n * i.ety.size)++cells.drop ((lo+n) * i.ety.size)):=by
    unfold over;exact Yw _ _ _ _ (Yw _ _ _ _ (Y13 hR xs cells p5 lo).1 (Y13 hR ys news n1 n).1) (Y13 hR xs cells p5 (lo+n)).2
   refine ⟨by rw[hovl]; exact hl0,hc0,.inr ⟨p1,nc.toArray,ee,_,hh',Yz (fun x cs=>Y17 hx'.holds _ x cs) _ _ hrd,fun j v hv=>?_,by simp only[List.size_toArray,hncl]; exact p7⟩⟩;rw[List.getElem?_toArray,<- hN];by_cases hq0:n=0
   ·subst hq0;simp only[Nat.zero_mul,List.take_zero,List.append_nil,Nat.add_zero,List.take_append_drop] at hv ⊢;have:=p6 _ _ hv;simpa using this
   ·have hoff:=p2 (by omega);have htk:(cells.take (lo * i.ety.size)).length=lo * i.ety.size:=by rw[List.length_take,hcells]; omega
    have htk2:(cc.toList.take off).length=off:=by
     rw[List.length_take,Array.length_toList]; omega
    by_cases h1:j < lo * i.ety.size
    ·rw[la9,List.getElem?_append_left (by omega),List.getElem?_take_of_lt h1] at hv;rw[la9,List.getElem?_append_left (by omega),List.getElem?_take_of_lt (by omega)];have:=p6 _ _ hv;simpa using this
    ·by_cases h2:j < lo * i.ety.size+n * i.ety.size
     ·rw[la9,List.getElem?_append_right (by omega),htk,List.getElem?_append_left (by omega)] at hv;rw[la9,List.getElem?_append_right (by omega),htk2,List.getElem?_append_left (by omega),<- hv];congr 1; omega
     ·rw[List.getElem?_append_right (by rw[ln9]; omega),ln9,htk,hnews,List.getElem?_drop] at hv;rw[List.getElem?_append_right (by rw[ln9]; omega),ln9,htk2,hnews,List.getElem?_drop];have:=p6 _ _ hv;rw[Nat.add_mul] at this;rw[show off+n * i.ety.size+((g.loc τ).base+j - (off+n * i.ety.size))=(g.loc τ).base+(lo * i.ety.size+n * i.ety.size+(j - (lo * i.ety.size+n * i.ety.size))) by omega];simpa using this
theorem Yb8 {t:TypeId} {i:TI} {rs:Option Operand} (ho:o.op=.makeMap t rs) (hi:TIok P t i) (hI:Inv g X m w) (hf:FrOK g w (okB X g m) fr a.tmps)
  (h:(bif Nat.beq i.kind 6 && i.fmk then (match (generalizing:=false) rs with
   | none=>k (.mp g.n) ((g.n,.fm [] .nil) :: m) (g.n+1)
   | some x=>match ev fr x with
    | .d (.int _) _=>k (.mp g.n) ((g.n,.fm [] .nil) :: m) (g.n+1)
    | _=>none) else none)=some r):OpR P X o a w g m k kp r:=by
 obtain ⟨h1,h9⟩:=Y2j h;clear h;rw[ba9] at h1;obtain ⟨kt,vt,u1,u2⟩:=hi.map (eb9 h1.1)
 have hk:k (.mp g.n) ((g.n,.fm [] .nil) :: m) (g.n+1)=some r/\(execOp a.eval o).run P w=.ok (.value (.map (some w.heap.size))) (w.alloc (.map #[] 0)):=by
  split at h9
  ·refine ⟨h9,?_⟩;unfold execOp;simp[ho,Instr.makeMap,run_newObj_alloc,Result.andThen]
  ·rename_i x0;split at h9
   ·rename_i kd n hx;have hxv:=ev_ok hf x0;rw[hx] at hxv;refine ⟨h9,?_⟩;have hai:(asInt (a.eval x0)).run P w=.ok (n:Int) w:=by rw[Y9b hxv]; rfl
    unfold execOp;simp[ho,Instr.makeMap,run_underlying u1,hai,run_newObj_alloc,Result.andThen]
   ·cases h9
 let L:Loc:=⟨w.heap.size,0,0,0,false⟩
 have hx:=Ext.alloc hI (.map #[] 0) (.fm [] .nil) L rfl;refine OpR.value (g':=g.new L) hk.2 hk.1 (hI.alloc _ _ L rfl ?_) ⟨fun h=>(by cases h),fun _=>⟨.inr rfl,by rw[G.new_self]⟩⟩ hx;refine ⟨by rw[G.new_self],#[],[],?_,rfl,fun j e p h1=>by simp at h1,rfl,rfl⟩;rw[G.new_self];have:=World.alloc_heap_new w (.map #[] 0);simpa[L] using this
theorem Yb9 {t:TypeId} {i:TI} {rs:Option Operand} (ho:o.op=.makeMap t rs) (hi:TIok P t i) (hI:Inv g X m w) (hf:FrOK g w (okB X g m) fr a.tmps)
  (h:(bif Nat.beq i.kind 6 && i.mky then (match rs with
   | none=>k (.mp g.n) ((g.n,.mp i.kty i.ety []) :: m) (g.n+1)
   | some x=>match ev fr x with
    | .d (.int _) _=>k (.mp g.n) ((g.n,.mp i.kty i.ety []) :: m) (g.n+1)
    | _=>none) else bif Nat.beq i.kind 6 && i.fmk then (match (generalizing:=false) rs with
   | none=>k (.mp g.n) ((g.n,.fm [] .nil) :: m) (g.n+1)
   | some x=>match ev fr x with
    | .d (.int _) _=>k (.mp g.n) ((g.n,.fm [] .nil) :: m) (g.n+1)
    | _=>none) else none)=some r):OpR P X o a w g m k kp r:=by
 by_cases h1:(Nat.beq i.kind 6 && i.mky)=true
 case neg=>rw[Bool.of_not_eq_true h1] at h; exact Yb8 ho hi hI hf h
 have h9:=h;rw[h1,cond_true] at h9;clear h;rw[ba9] at h1;obtain ⟨kt,vt,u1,u2⟩:=hi.map (eb9 h1.1)
 have hk:k (.mp g.n) ((g.n,.mp i.kty i.ety []) :: m) (g.n+1)=some r/\(execOp a.eval o).run P w=.ok (.value (.map (some w.heap.size))) (w.alloc (.map #[] 0)):=by
  split at h9
  ·refine ⟨h9,?_⟩;unfold execOp;simp[ho,Instr.makeMap,run_newObj_alloc,Result.andThen]
  ·rename_i x0;split at h9
   ·rename_i kd n hx;have hxv:=ev_ok hf x0;rw[hx] at hxv;refine ⟨h9,?_⟩;have hai:(asInt (a.eval x0)).run P w=.ok (n:Int) w:=by rw[Y9b hxv]; rfl
    unfold execOp;simp[ho,Instr.makeMap,run_underlying u1,hai,run_newObj_alloc,Result.andThen]
   ·cases h9
 let L:Loc:=⟨w.heap.size,0,0,0,false⟩
 have hx:=Ext.alloc hI (.map #[] 0) (.mp i.kty i.ety []) L rfl;refine OpR.value (g':=g.new L) hk.2 hk.1 (hI.alloc _ _ L rfl ?_) ⟨fun h=>(by cases h),fun _=>⟨.inr rfl,by rw[G.new_self]⟩⟩ hx;refine ⟨by rw[G.new_self],#[],?_,rfl,fun j e p h1=>by simp at h1⟩;rw[G.new_self];have:=World.alloc_heap_new w (.map #[] 0);simpa[L] using this
end
section
variable {X:Nat->Prop} {w:World} {g:G} {m:Mem}
theorem has_lt {kt t:Ty} {l:List (kt.T × List t.T)} {h:Option (Nat × Nat)} {i:Nat} (q:(Blk.mo kt t l h).has i=true):i < l.length:=by
 cases h with
 | none=>exact of_decide_eq_true q
 | some p =>
  have q:(decide (i < l.length) && !Nat.beq i p.2)=true:=q;rw[ba9] at q;exact of_decide_eq_true q.1
theorem Y8l {kt t:Ty} {l:List (kt.T × List t.T)} {σ j i:Nat}:(Blk.mo kt t l (some (σ,j))).has i=true ↔ i < l.length/\i ≠ j:=by
 show (decide (i < l.length) && !Nat.beq i j)=true ↔ _;rw[ba9,decide_eq_true_eq,Bool.not_eq_true'];refine and_congr Iff.rfl ⟨fun h e=>?_,fun h=>?_⟩
 ·rw[e,Nat.beq_refl] at h; cases h
 ·cases hb:Nat.beq i j with
  | false=>rfl
  | true=>exact absurd (eb9 hb) h
theorem Y8k {kt t:Ty} {l:List (kt.T × List t.T)} {i:Nat}:(Blk.mo kt t l none).has i=true ↔ i < l.length:=decide_eq_true_iff
theorem mo_out (hI:Inv g X m w) {τ:Nat} {kt t:Ty} {l:List (kt.T × List t.T)} (hm:mget τ m=.mo kt t l none) {i:Nat} {p:kt.T × List t.T} (hi:l[i]?=some p) :
  Inv (g.new (g.sub τ i)) X ((g.n,.row t p.2) :: (τ,.mo kt t l (some (g.n,i))) :: m) w/\Ext g m w (g.new (g.sub τ i)) ((g.n,.row t p.2) :: (τ,.mo kt t l (some (g.n,i))) :: m) w:=by
 obtain ⟨L,hL⟩:∃ L,L=g.sub τ i:=⟨_,rfl⟩
 rw[<- hL];have hlt:i < l.length:=(List.getElem?_eq_some_iff.1 hi).1;have hd:=hI.lt (τ:=τ) (by rw[hm]; intro e; cases e);have hne:=hI.ne hd;have hB:=hI.ok τ;rw[hm] at hB;obtain ⟨b1,es,b2,b3,b4,b5⟩:=hB;have hie:i < es.size:=by omega
 obtain ⟨m1,m2,m3⟩:=b4 i es[i] p (by simp[hie]) hi;obtain ⟨m4,m5⟩:=m3 (Y8k.2 hlt);rw[<- hL] at m4 m5
 let m':Mem:=(g.n,.row t p.2) :: (τ,.mo kt t l (some (g.n,i))) :: m
 have hg1:mget g.n m'=.row t p.2:=by show mget g.n ((g.n,_) :: _)=_; rw[Ybs,if_pos rfl]
 have hg2:mget τ m'=.mo kt t l (some (g.n,i)):=by show mget τ ((g.n,_) :: _)=_; rw[Ybs,if_neg (fun e=>hne e.symm),Ybs,if_pos rfl]
 have hg3:∀ σ,σ ≠ g.n->σ ≠ τ->mget σ m'=mget σ m:=fun σ h1 h2=>by show mget σ ((g.n,_) :: _)=_; rw[Ybs,if_neg (fun e=>h1 e.symm),Ybs,if_neg (fun e=>h2 e.symm)]
 have hlv:∀ σ,Lv (g.new L) m' σ->σ ≠ g.n->Lv g m σ:=by
  rintro σ ⟨h1,h2⟩ hn;rw[g.new_old L hn] at h2;by_cases e:σ=τ
  ·subst e; exact ⟨by rw[hm]; rfl,h2⟩
  ·rw[hg3 σ hn e] at h1; exact ⟨h1,h2⟩
 have hmo:MoLe g m (g.new L) m':=by
  intro σ j k;refine ⟨?_,rfl⟩;by_cases e1:σ=g.n
  ·rw[e1,hg1] at k; cases k
  ·by_cases e2:σ=τ
   ·subst e2; rw[hg2] at k; rw[hm]; exact Y8k.2 (Y8l.1 k).1
   ·rw[hg3 σ e1 e2] at k; exact k
 have hsb0:L.nil=false->Sb g m τ i:=fun h=>⟨by rw[hm]; exact Y8k.2 hlt,by rw[<- hL]; exact h⟩
 have hown:∀ b,Own (g.new L) m' b->Own g m b:=by
  rintro b (⟨σ,h1,h2⟩ | h)
  ·by_cases e:σ=g.n
   ·have hn:=h1.2;rw[e,g.new_self] at hn h2;exact .inr ⟨τ,i,hsb0 hn,by rw[<- hL]; exact h2⟩
   ·rw[g.new_old L e] at h2;exact .inl ⟨σ,hlv σ h1 e,h2⟩
  ·exact .inr (hmo.own h)
 have hx:Ext g m w (g.new L) m' w:=⟨g.new_ext L hI.ndom,g.new_nw L,Nat.le_refl _,fun _ _ _=>rfl,fun b hb=>.inl (hown b hb),rfl,rfl,rfl⟩
 have hH:=hx.holds (X:=X)
 have hsbn:∀ σ j,Sb (g.new L) m' σ j->Sb g m σ j/\¬ (σ=τ/\j=i):=by
  intro σ j k;refine ⟨(hmo.sb k).1,fun ⟨e1,e2⟩=>?_⟩;have k1:=k.1;rw[e1,hg2] at k1;exact (Y8l.1 k1).2 e2
 refine ⟨⟨fun σ=>?_,fun σ σ' h1 h2 h3=>?_,fun σ h1=>?_,hI.xlt,fun σ h1=>?_,fun σ h1=>h1.elim (fun h=>Nat.lt_succ_of_lt (hI.dlt σ h)) (fun e=>e ▸ Nat.lt_succ_self _),fun σ j k=>?_⟩,hx⟩
 ·by_cases e1:σ=g.n
  ·subst e1;show BOK _ _ _ _ (mget g.n m');rw[hg1];have:=Y19 hH (fun _=>rfl) m5;show RowOK _ _ _ _ ((g.new L).loc g.n);rw[g.new_self]; exact this
  ·by_cases e2:σ=τ
   ·subst e2;show BOK _ _ _ _ (mget σ m');rw[hg2];refine ⟨by rw[g.new_old L e1]; exact b1,es,by rw[g.new_old L e1]; exact b2,b3,fun j e q he hq=>?_,fun σ' j' e=>?_⟩
    ·obtain ⟨q1,⟨g0,q2⟩,q3⟩:=b4 j e q he hq;refine ⟨q1,⟨g0,Yt (GExt.refl g0) hH q2⟩,fun h=>?_⟩;obtain ⟨q4,q5⟩:=q3 (Y8k.2 (Y8l.1 h).1);exact ⟨q4,Y19 hH (fun _=>rfl) q5⟩
    ·cases e;refine ⟨hlt,.inr rfl,fun e he=>?_⟩;rw[g.new_self];rw[Array.getElem?_eq_getElem hie] at he;cases he;exact m4
   ·show BOK _ _ _ _ (mget σ m');rw[hg3 σ e1 e2];by_cases hd':g.dom σ
    ·exact Y1 hx.gx hH hd' (fun _ _=>rfl) (fun _ _=>⟨rfl,fun _=>rfl⟩) (hI.ok σ)
    ·rw[hI.fresh σ hd']; trivial
 ·by_cases e:σ=g.n
  ·by_cases e':σ'=g.n
   ·rw[e,e']
   ·have hn:=h1.2;rw[e,g.new_self] at hn;rw[e,g.new_self,g.new_old L e'] at h3;have:=(hI.sb τ i (hsb0 hn)).2.2.1 σ' (hlv σ' h2 e');rw[<- hL] at this;exact absurd h3.symm this
  ·by_cases e':σ'=g.n
   ·have hn:=h2.2;rw[e',g.new_self] at hn;rw[e',g.new_self,g.new_old L e] at h3;have:=(hI.sb τ i (hsb0 hn)).2.2.1 σ (hlv σ h1 e);rw[<- hL] at this;exact absurd h3 this
   ·rw[g.new_old L e,g.new_old L e'] at h3;exact hI.inj σ σ' (hlv σ h1 e) (hlv σ' h2 e') h3
 ·by_cases e:σ=g.n
  ·have hn:=h1.2;rw[e,g.new_self] at hn ⊢;have:=(hI.sb τ i (hsb0 hn)).2.1;rw[<- hL] at this;exact this
  ·rw[g.new_old L e]; exact hI.far σ (hlv σ h1 e)
 ·have h2:¬ (g.dom σ \/ σ=g.n):=h1;show mget σ m'=_;rw[hg3 σ (fun e=>h2 (.inr e)) (fun e=>h2 (.inl (e ▸ hd)))];exact hI.fresh σ (fun e=>h2 (.inl e))
 ·obtain ⟨k1,k2⟩:=hsbn σ j k;obtain ⟨q1,q2,q3,q4⟩:=hI.sb σ j k1;refine ⟨q1,q2,fun σ' h' e=>?_,fun σ' j' h'=>q4 σ' j' (hsbn σ' j' h').1⟩;by_cases e1:σ'=g.n
  ·have hn:=h'.2;rw[e1,g.new_self] at hn e;obtain ⟨e3,e4⟩:=q4 τ i (hsb0 hn) (by rw[<- hL]; exact e);exact k2 ⟨e3.symm,e4.symm⟩
  ·rw[g.new_old L e1] at e;exact q3 σ' (hlv σ' h' e1) e
def G.sbs (g:G) (τ i:Nat) (L:Loc):G:={ loc:=g.loc,n:=g.n,dom:=g.dom,rt:=g.rt,sub:=fun a b=>if a=τ/\b=i then L else g.sub a b }
theorem mo_in (hI:Inv g X m w) {τ σ:Nat} {kt t:Ty} {l l':List (kt.T × List t.T)} {h:Option (Nat × Nat)} (hm:mget τ m=.mo kt t l h) {ys:List t.T} (hs:mget σ m=.row t ys) {i:Nat} {x:kt.T} {e0:MapEntry}
  (hh:∀ a b,h=some (a,b)->b=i) {w':World} {es es':Array MapEntry} (hes:w.heap[(g.loc τ).blk]?=some (.map es es.size))
  (hl:l'[i]?=some (x,ys)/\∀ b,b ≠ i->l'[b]?=l[b]?) (he:es'[i]?=some e0/\∀ b,b ≠ i->es'[b]?=es[b]?) (hlen:es'.size=l'.length)
  (hb:e0.born=i) (hk:∃ g0,RV g0 w (okB X g m) (.d kt x) e0.key) (hv:e0.val=(g.loc σ).sv)
  (hsz:w'.heap.size=w.heap.size) (ho:∀ b,b ≠ (g.loc τ).blk->w'.heap[b]?=w.heap[b]?) (hat:w'.heap[(g.loc τ).blk]?=some (.map es' es'.size)) (h1:w'.os=w.os) (h2:w'.tape=w.tape) (h3:w'.output=w.output) :
  Inv (g.sbs τ i (g.loc σ)) X ((τ,.mo kt t l' none) :: (σ,.gone) :: m) w'/\Ext g m w (g.sbs τ i (g.loc σ)) ((τ,.mo kt t l' none) :: (σ,.gone) :: m) w':=by
 obtain ⟨L,hL⟩:∃ L,L=g.loc σ:=⟨_,rfl⟩
 rw[<- hL];have hne:τ ≠ σ:=fun e=>by rw[e,hs] at hm; cases hm
 have hd:=hI.lt (τ:=τ) (by rw[hm]; intro e; cases e);have hds:=hI.lt (τ:=σ) (by rw[hs]; intro e; cases e);have hB:=hI.ok τ;rw[hm] at hB;obtain ⟨b1,es1,b2,b3,b4,b5⟩:=hB;have hee:es1=es:=by rw[hes] at b2; cases b2; rfl
 subst hee;have hR:=hI.ok σ;rw[hs] at hR;have hR:RowOK w (okB X g m) t ys (g.loc σ):=hR;rw[<- hL] at hR;have hlτ:Lv g m τ:=⟨by rw[hm]; rfl,b1⟩
 have hlσ:L.nil=false->Lv g m σ:=fun h=>⟨by rw[hs]; rfl,by rw[<- hL]; exact h⟩
 let m':Mem:=(τ,.mo kt t l' none) :: (σ,.gone) :: m
 have hg1:mget τ m'=.mo kt t l' none:=by show mget τ ((τ,_) :: _)=_; rw[Ybs,if_pos rfl]
 have hg2:mget σ m'=.gone:=by show mget σ ((τ,_) :: _)=_; rw[Ybs,if_neg hne,Ybs,if_pos rfl]
 have hg3:∀ a,a ≠ τ->a ≠ σ->mget a m'=mget a m:=fun a k1 k2=>by show mget a ((τ,_) :: _)=_; rw[Ybs,if_neg (fun e=>k1 e.symm),Ybs,if_neg (fun e=>k2 e.symm)]
 have hsub1:(g.sbs τ i L).sub τ i=L:=by show (if τ=τ/\i=i then L else _)=_; rw[if_pos ⟨rfl,rfl⟩]
 have hsub2:∀ a b,¬ (a=τ/\b=i)->(g.sbs τ i L).sub a b=g.sub a b:=fun a b k=>by show (if a=τ/\b=i then L else _)=_; rw[if_neg k]
 have hlv:∀ a,Lv (g.sbs τ i L) m' a->Lv g m a/\a ≠ σ:=by
  rintro a ⟨k1,k2⟩;by_cases e1:a=τ
  ·subst e1; exact ⟨hlτ,hne⟩
  ·by_cases e2:a=σ
   ·rw[e2,hg2] at k1; cases k1
   ·rw[hg3 a e1 e2] at k1; exact ⟨⟨k1,k2⟩,e2⟩
 have hlt:i < l'.length:=(List.getElem?_eq_some_iff.1 hl.1).1
 have hhas:∀ b,b < l'.length->b ≠ i->(mget τ m).has b=true/\b < l.length:=by
  intro b k1 k2
  have k3:b < l.length:=by
   have:=hl.2 b k2;rw[List.getElem?_eq_getElem k1] at this;exact (List.getElem?_eq_some_iff.1 this.symm).1
  refine ⟨?_,k3⟩;rw[hm];cases h with
  | none=>exact Y8k.2 k3
  | some p =>
   obtain ⟨a,c⟩:=p;exact Y8l.2 ⟨k3,fun e=>k2 (by rw[e]; exact hh a c rfl)⟩
 have hsb:∀ a b,Sb (g.sbs τ i L) m' a b->(a=τ/\b=i/\L.nil=false) \/ (¬ (a=τ/\b=i)/\Sb g m a b):=by
  rintro a b ⟨k1,k2⟩;by_cases e:a=τ/\b=i
  ·obtain ⟨e1,e2⟩:=e;subst e1 e2;rw[hsub1] at k2;exact .inl ⟨rfl,rfl,k2⟩
  ·right;refine ⟨e,?_⟩;rw[hsub2 a b e] at k2;by_cases e1:a=τ
   ·subst e1;rw[hg1] at k1;exact ⟨(hhas b (Y8k.1 k1) (fun e2=>e ⟨rfl,e2⟩)).1,k2⟩
   ·by_cases e2:a=σ
    ·rw[e2,hg2] at k1; cases k1
    ·rw[hg3 a e1 e2] at k1; exact ⟨k1,k2⟩
 have hown:∀ b,Own (g.sbs τ i L) m' b->Own g m b:=by
  rintro b (⟨a,k1,k2⟩ | ⟨a,c,k1,k2⟩)
  ·exact .inl ⟨a,(hlv a k1).1,k2⟩
  ·rcases hsb a c k1 with ⟨e1,e2,e3⟩ | ⟨e1,e2⟩
   ·subst e1 e2;rw[hsub1] at k2;exact (hlσ e3).own (by rw[<- hL]; exact k2)
   ·rw[hsub2 a c e1] at k2;exact .inr ⟨a,c,e2,k2⟩
 have hx:Ext g m w (g.sbs τ i L) m' w':=⟨⟨⟨Nat.le_refl _,rfl⟩,fun _ k=>⟨k,rfl⟩⟩,fun _ k=>.inl k,by omega,fun b _ hno=>ho b (fun e=>hno (hlτ.own e.symm)),fun b hb=>.inl (hown b hb),h1,h2,h3⟩
 have hH:=hx.holds (X:=X);refine ⟨⟨fun a=>?_,fun a a' k1 k2 k3=>hI.inj a a' (hlv a k1).1 (hlv a' k2).1 k3,fun a k1=>hI.far a (hlv a k1).1,fun b hb=>by rw[hsz]; exact hI.xlt b hb,fun a k1=>?_,hI.dlt,fun a b k=>?_⟩,hx⟩
 ·by_cases e1:a=τ
  ·subst e1;show BOK _ _ _ _ (mget a m');rw[hg1];refine ⟨b1,es',hat,hlen,fun j e q he' hq=>?_,fun _ _ e=>by cases e⟩;by_cases ej:j=i
   ·subst ej;rw[hl.1] at hq;rw[he.1] at he';cases hq; cases he';obtain ⟨g0,hk⟩:=hk;refine ⟨hb,⟨g0,Yt (GExt.refl g0) hH hk⟩,fun _=>?_⟩;rw[hsub1];refine ⟨by rw[hL]; exact hv,Y19 hH (fun hn=>ho _ (fun e=>?_)) hR⟩;exact hne (hI.inj σ a (hlσ hn) hlτ (by rw[<- hL]; exact e)).symm
   ·have he'':=he';have hq':=hq;rw[he.2 j ej] at he';rw[hl.2 j ej] at hq;obtain ⟨q1,⟨g0,q2⟩,q3⟩:=b4 j e q he' hq;refine ⟨q1,⟨g0,Yt (GExt.refl g0) hH q2⟩,fun hhas'=>?_⟩;rw[hsub2 a j (fun k=>ej k.2)];have k4:=(hhas j (Y8k.1 hhas') ej).1;obtain ⟨q4,q5⟩:=q3 (by rw[hm] at k4; exact k4);refine ⟨q4,Y19 hH (fun hn=>ho _ (fun e=>?_)) q5⟩;exact (hI.sb a j ⟨k4,hn⟩).2.2.1 a hlτ e.symm
  ·by_cases e2:a=σ
   ·subst e2;show BOK _ _ _ _ (mget a m');rw[hg2]; trivial
   ·show BOK _ _ _ _ (mget a m');rw[hg3 a e1 e2];by_cases hd':g.dom a
    ·refine Y1 hx.gx hH hd' (fun k1 k2=>ho _ (fun e=>e1 (hI.inj a τ ⟨k1,k2⟩ hlτ e))) (fun j k1=>⟨hsub2 a j (fun k=>e1 k.1),fun k2=>ho _ (fun e=>?_)⟩) (hI.ok a);exact (hI.sb a j ⟨k1,k2⟩).2.2.1 τ hlτ e.symm
    ·rw[hI.fresh a hd']; trivial
 ·show mget a m'=_;rw[hg3 a (fun e=>k1 (e ▸ hd)) (fun e=>k1 (e ▸ hds))];exact hI.fresh a k1
 ·rw[hsz];rcases hsb a b k with ⟨e1,e2,e3⟩ | ⟨e1,e2⟩
  ·subst e1 e2;rw[hsub1];have hls:=hlσ e3;refine ⟨by rw[hL]; exact hI.heap_lt hls,by rw[hL]; exact hI.far σ hls,fun a' k' e=>?_,fun a' b' k' e=>?_⟩
   ·obtain ⟨q1,q2⟩:=hlv a' k';exact q2 (hI.inj a' σ q1 hls (by rw[<- hL]; exact e))
   ·rcases hsb a' b' k' with ⟨f1,f2,f3⟩ | ⟨f1,f2⟩
    ·exact ⟨f1,f2⟩
    ·rw[hsub2 a' b' f1] at e;exact absurd (by rw[<- hL]; exact e.symm) ((hI.sb a' b' f2).2.2.1 σ hls)
  ·rw[hsub2 a b e1];obtain ⟨q1,q2,q3,q4⟩:=hI.sb a b e2;refine ⟨q1,q2,fun a' k'=>q3 a' (hlv a' k').1,fun a' b' k' e=>?_⟩;rcases hsb a' b' k' with ⟨f1,f2,f3⟩ | ⟨f1,f2⟩
   ·subst f1 f2;rw[hsub1] at e;exact absurd (by rw[<- hL]; exact e) (q3 σ (hlσ f3))
   ·rw[hsub2 a' b' f1] at e;exact q4 a' b' f2 e
theorem Yc1 {kt t:Ty} {τ:Nat} {l:List (kt.T × List t.T)} {h:Option (Nat × Nat)} (e:moAt m kt t τ=some (l,h)):mget τ m=.mo kt t l h:=by
 unfold moAt at e;split at e
 ·rename_i k' t' l0 h0 hm;split at e
  ·rename_i l1 hc;cases e;obtain ⟨e2,he⟩:=Y4v hc;cases e2;have he:l=l0:=he;rw[he]; exact hm
  ·cases e
 ·cases e
theorem Yg5 {t:Ty} {σ:Nat} {xs:List t.T} (e:rowAt m t σ=some xs):mget σ m=.row t xs:=by
 have e':(match mget σ m with | .row t' ys=>Ty.conv (.slice t') (.slice t) ys | _=>none)=some xs:=e;cases hm:mget σ m with
 | row t' l0 =>
  rw[hm] at e';obtain ⟨e2,he⟩:=Y4v e';cases e2;have he:xs=l0:=he;rw[he]
 | _=>rw[hm] at e'; cases e'
theorem moset {κ α:Type}:∀ (l:List (κ × α)) (i:Nat) (v:α) (p:κ × α),l[i]?=some p->(mset l i v)[i]?=some (p.1,v)/\(∀ b,b ≠ i->(mset l i v)[b]?=l[b]?)/\(mset l i v).length=l.length
 | [],i,v,p,h=>by simp at h
 | q :: l,0,v,p,h=>by
  simp at h;subst h;exact ⟨rfl,fun b hb=>by cases b with | zero=>exact absurd rfl hb | succ b=>rfl,rfl⟩
 | q :: l,i+1,v,p,h=>by
  obtain ⟨h1,h2,h3⟩:=moset l i v p (by simpa using h);refine ⟨by simpa[mset] using h1,fun b hb=>?_,by simp[mset,h3]⟩;cases b with
  | zero=>rfl
  | succ b=>simpa[mset] using h2 b (by omega)
theorem Yc2 (hI:Inv g X m w) {kt t:Ty} {τ:Nat} {l:List (kt.T × List t.T)} {m1:Mem} (h:moBack m kt t τ=some (l,m1)) :
  ∃ g1,mget τ m1=.mo kt t l none/\Inv g1 X m1 w/\Ext g m w g1 m1 w/\g1.n=g.n:=by
 unfold moBack at h;split at h
 ·rename_i l0 e;cases h;exact ⟨g,Yc1 e,hI,Ext.refl _ _ _,rfl⟩
 ·rename_i l0 σ i e;cases hb:Nat.beq σ τ with
  | true=>rw[hb] at h; cases h
  | false =>
   rw[hb,cond_false] at h;split at h
   ·rename_i xs hr;cases h;have hm:=Yc1 e;have hs:=Yg5 hr;have hB:=hI.ok τ;rw[hm] at hB;obtain ⟨b1,es,b2,b3,b4,b5⟩:=hB;obtain ⟨c1,c2,c3⟩:=b5 σ i rfl;obtain ⟨k1,k2,k3⟩:=moset l0 i xs l0[i] (by simp[c1]);have hie:i < es.size:=by omega
    obtain ⟨q1,q2,_⟩:=b4 i es[i] l0[i] (by simp[hie]) (by simp[c1]);obtain ⟨r1,r2⟩:=mo_in (w':=w) hI hm hs (i:=i) (e0:=es[i]) (fun a b e=>by cases e; rfl) b2 ⟨k1,k2⟩ ⟨by simp[hie],fun _ _=>rfl⟩ (by rw[k3]; exact b3) q1 q2 (c3 _ (by simp[hie])) rfl (fun _ _=>rfl) b2 rfl rfl rfl;exact ⟨_,by rw[Ybs,if_pos rfl],r1,r2,rfl⟩
   ·cases h
 ·cases h
end
section
variable {P:Program} {C:Ctx} {X:Nat->Prop} {R:Type} {o:Oper} {a:Act} {w:World} {g:G} {m:Mem} {k kp:AV->Mem->Nat->Option R} {r:R} {fr:Fr}
theorem Yc4 {t:TypeId} {i:TI} {x ix:Operand} {ok:Bool} (ho:o.op=.lookup t x ix ok) (hi:TIok P t i) (hI:Inv g X m w) (hf:FrOK g w (okB X g m) fr a.tmps)
  (h:(bif Nat.beq i.kind 6 && (i.mok && !ok) then moLook (ev fr ix) m g.n i.kty i.ety k (ev fr x) else none)=some r):OpR P X o a w g m k kp r:=by
 obtain ⟨h1,h9⟩:=Y2j h;clear h;have h:=h9;clear h9;rw[ba9,ba9,Bool.not_eq_true'] at h1;obtain ⟨h1,h1',h1''⟩:=h1;subst h1'';obtain ⟨kt,vt,u1,u2⟩:=hi.map (eb9 h1);obtain ⟨hK,fi,ez,z1,z2,z3⟩:=u2.2.2 h1';have hz:=Yku z1 z2 w;have hez:ez=.slice none 0 0:=(List.cons.inj ((z3 g w (okB X g m)).2 rfl)).1;have hx:=ev_ok hf x;have hix:=ev_ok hf ix;generalize ev fr x=xv at *;cases xv with
 | mp τ =>
  simp only[moLook] at h;split at h
  ·rename_i tt hety;split at h
   ·rename_i key l m1 hkey hm;have hdk:=Y54 hI hkey hix;obtain ⟨g1,hm1,hI1,hx1,hn1⟩:=Yc2 hI hm;obtain ⟨e2,e3⟩:=hx.2 rfl;have e3:=(List.cons.inj e3).1;have hloc:=(hx1.gx.2 τ e2).2;have hB:=hI1.ok τ;rw[hm1] at hB;obtain ⟨b1,es,b2,b3,b4,b5⟩:=hB;rw[hloc] at b2
    have hfind:=hK.find (vt:=.slice tt) w key (a.eval ix) l es.toList hdk (by rw[Array.length_toList]; exact b3) (fun j e p h1 h2=>by
     obtain ⟨_,⟨g',q1⟩,_⟩:=b4 j e p (by simpa using h1) h2;exact ⟨_,_,_,q1⟩)
    cases hidx:mIdx i.kty.beq key l 0 with
    | none =>
     obtain ⟨n1,n2,_⟩:=Yb2 (z:=([]:List tt.T)) hidx;have h2:mhasR key l=false:=n2;rw[h2,cond_false] at h;refine OpR.value (v:=.nl) (cv:=.slice none 0 0) (g':=g1) ?_ (by rw[hn1]; exact h) hI1 ⟨fun h=>(by cases h),fun _=>rfl⟩ hx1;have hfind:(Instr.findKey kt (a.eval ix) es.toList).run P w=.ok none w:=by rw[hfind]; exact congrArg (fun q=>Result.ok (Option.map _ q) w) hidx
     unfold execOp;simp[ho,Instr.lookup,run_underlying u1,e3,MapKept.run_getObj_map b2,hK.chk _ _ _ _ hdk,hfind,hz,hez,Result.andThen]
    | some j =>
     obtain ⟨_,p,n1,n2,n3,n4,n5,_⟩:=Yb3 (z:=([]:List tt.T)) hidx;rw[Nat.sub_zero] at n1 n5;have h2:mhasR key l=true:=n4;have h3:mlookR key l=p.2:=n3;have h4:mposR key l=j:=n5;rw[h2,cond_true,h3,h4] at h;have hj:j < es.size:=by rw[b3]; exact (List.getElem?_eq_some_iff.1 n1).1
     obtain ⟨_,_,q3⟩:=b4 j es[j] p (by simp[hj]) n1;obtain ⟨q4,_⟩:=q3 (Y8k.2 (List.getElem?_eq_some_iff.1 n1).1);obtain ⟨r1,r2⟩:=mo_out hI1 hm1 n1;rw[hn1] at r1 r2;have hnn:(g1.new (g1.sub τ j)).n=g.n+1:=by show g1.n+1=_; rw[hn1]
     refine OpR.value (v:=.sl g.n) (cv:=es[j].val) (g':=g1.new (g1.sub τ j)) ?_ (by rw[hnn]; exact h) r1 ⟨fun h=>(by cases h),fun _=>⟨.inr hn1.symm,?_⟩⟩ (hx1.trans r2)
     ·have hgd:es.toList.getD j default=es[j]:=by simp[List.getD_eq_getElem?_getD,hj]
      have hfind:(Instr.findKey kt (a.eval ix) es.toList).run P w=.ok (some (j,es[j].val)) w:=by rw[hfind,<- hgd]; exact congrArg (fun q=>Result.ok (Option.map _ q) w) hidx
      unfold execOp;simp[ho,Instr.lookup,run_underlying u1,e3,MapKept.run_getObj_map b2,hK.chk _ _ _ _ hdk,hfind,Result.andThen]
     ·rw[q4,<- hn1,G.new_self]
   ·cases h
  ·cases h
 | _=>cases h
theorem Yc8 {t:TypeId} {i:TI} {x kk v:Operand} (ho:o.op=.mapUpdate t x kk v \/ o.op=.insert t x kk v) (hi:TIok P t i) (hI:Inv g X m w) (hf:FrOK g w (okB X g m) fr a.tmps)
  (h:(bif Nat.beq i.kind 6 && i.mok then moPut (ev fr kk) (ev fr v) m g.n i.kty i.ety k (ev fr x) else none)=some r):OpR P X o a w g m k kp r:=by
 obtain ⟨h1,h9⟩:=Y2j h;clear h;have h:=h9;clear h9;rw[ba9] at h1;obtain ⟨kt,vt,u1,u2⟩:=hi.map (eb9 h1.1);obtain ⟨hK,fi,ez,z1,z2,z3⟩:=u2.2.2 h1.2;have hx:=ev_ok hf x;have hkk:=ev_ok hf kk;have hv:=ev_ok hf v;generalize ev fr x=xv at *;cases xv with
 | mp τ =>
  simp only[moPut] at h;split at h
  ·rename_i tt hety;split at h
   ·rename_i σ hvv;split at h
    ·rename_i key l hh ys hkey hm hr;obtain ⟨h2,h⟩:=Y2j h;have hdk:=Y54 hI hkey hkk;have hm:=Yc1 hm;have hr:=Yg5 hr;obtain ⟨e2,e3⟩:=hx.2 rfl;have e3:=(List.cons.inj e3).1;rw[hvv] at hv;obtain ⟨f2,f3⟩:=hv.2 rfl;have f3:=(List.cons.inj f3).1;have hB:=hI.ok τ;rw[hm] at hB;obtain ⟨b1,es,b2,b3,b4,b5⟩:=hB
     have hfind:=hK.find (vt:=.slice tt) w key (a.eval kk) l es.toList hdk (by rw[Array.length_toList]; exact b3) (fun j e p h1 h2=>by
      obtain ⟨_,⟨g',q1⟩,_⟩:=b4 j e p (by simpa using h1) h2;exact ⟨_,_,_,q1⟩)
     have hlt:=Yb1 b2
     have hfit:∀ a b,hh=some (a,b)->b=mposR key l:=fun a b e=>by
      subst e;exact eb9 h2
     obtain ⟨g0,w0,ok0,hk0⟩:=hdk;have hk1:RV g0 w (okB X g m) (.d i.kty key) (a.eval kk):=⟨fun e=>let ⟨ds,e1,e2⟩:=hk0.1 e; ⟨ds,e1,eok_mk.Rd_freeM i.kty key ds hK.sl e2⟩,fun e=>eok_mk.Rd_freeM i.kty key _ hK.sl (hk0.2 e)⟩
     have hdk:DV i.kty key (a.eval kk):=⟨g0,w0,ok0,hk0⟩
     have fin:∀ (es':Array MapEntry),(Instr.mapUpdate t (a.eval x) (a.eval kk) (a.eval v)).run P w=.ok () (mapW w (g.loc τ).blk es' es'.size)->es'.size=(mputR key ys l).length ->
       (mputR key ys l)[mposR key l]?=some (key,ys)->(∀ b,b ≠ mposR key l->(mputR key ys l)[b]?=l[b]?)->(∃ e0:MapEntry,es'[mposR key l]?=some e0/\e0.born=mposR key l/\e0.key=a.eval kk/\e0.val=a.eval v) ->
       (∀ b,b ≠ mposR key l->es'[b]?=es[b]?)->OpR P X o a w g m k kp r:=by
      intro es' hrun hlen hl1 hl2 he1 he2;obtain ⟨e0,e01,e02,e03,e04⟩:=he1
      obtain ⟨r1,r2⟩:=mo_in hI hm hr hfit b2 ⟨hl1,hl2⟩ ⟨e01,he2⟩ hlen e02 ⟨g0,by rw[e03]; exact hk1⟩ (by rw[e04]; exact f3) (w':=mapW w (g.loc τ).blk es' es'.size) (by simp[mapW])
       (fun b hb=>by simp[mapW,Array.getElem?_setIfInBounds_ne (Ne.symm hb)]) (by simp[mapW,hlt]) rfl rfl rfl
      refine OpR.skip (g':=g.sbs τ (mposR key l) (g.loc σ)) ?_ h r1 r2;unfold execOp;rcases ho with ho | ho <;> simp[ho,hrun]
     cases hidx:mIdx i.kty.beq key l 0 with
     | none =>
      have hfind:(Instr.findKey kt (a.eval kk) es.toList).run P w=.ok none w:=by rw[hfind]; exact congrArg (fun q=>Result.ok (Option.map _ q) w) hidx
      obtain ⟨n1,n2,n3,n4⟩:=Yb2 (z:=([]:List tt.T)) hidx;have n3:mposR key l=l.length:=n3;have n4:mputR key ys l=l++[(key,ys)]:=n4 ys;refine fin (es.push ⟨a.eval kk,a.eval v,es.size⟩) ?_ (by rw[n4]; simp[b3]) (by rw[n3,n4]; simp) (fun b hb=>?_) ⟨⟨a.eval kk,a.eval v,es.size⟩,by rw[n3,<- b3]; simp,by rw[n3,<- b3],rfl,rfl⟩ (fun b hb=>?_)
      ·rw[e3];simp[Instr.mapUpdate,run_underlying u1,MapKept.run_getObj_map b2,hK.chk _ _ _ _ hdk,hfind,MapKept.run_setObj_map _ b2,Result.andThen,mapW]
      ·rw[n4,n3] at *;rw[List.getElem?_append];split
       ·rfl
       ·have h5:l.length <= b:=by omega
        rw[List.getElem?_eq_none h5,List.getElem?_eq_none (by simp; omega)]
      ·rw[n3,<- b3] at hb;rw[Array.getElem?_push,if_neg hb]
     | some j =>
      obtain ⟨_,q,n1,n2,n3,n4,n5,n6⟩:=Yb3 (z:=([]:List tt.T)) hidx;rw[Nat.sub_zero] at n1 n5 n6;have n5:mposR key l=j:=n5;have n6:mputR key ys l=l.set j (key,ys):=n6 ys;have hjl:=(List.getElem?_eq_some_iff.1 n1).1;have hj:j < es.size:=by rw[b3]; exact hjl
      have hgd:es.toList.getD j default=es[j]:=by simp[List.getD_eq_getElem?_getD,hj]
      have hfind:(Instr.findKey kt (a.eval kk) es.toList).run P w=.ok (some (j,es[j].val)) w:=by rw[hfind,<- hgd]; exact congrArg (fun q=>Result.ok (Option.map _ q) w) hidx
      obtain ⟨q0,⟨g',q1⟩,_⟩:=b4 j es[j] q (by simp[hj]) n1;obtain ⟨st,_⟩:=Yj7 (P:=P) hK.sl hdk ⟨_,_,_,q1⟩ n2 w
      refine fin (es.modify j (fun e=>{ e with key:=a.eval kk,val:=a.eval v })) ?_ (by rw[n6,Array.size_modify,List.length_set]; exact b3) (by rw[n5,n6,List.getElem?_set,if_pos rfl,if_pos hjl]) (fun b hb=>by rw[n6]; rw[n5] at hb; rw[List.getElem?_set,if_neg (fun e=>hb e.symm)])
       ⟨{ es[j] with key:=a.eval kk,val:=a.eval v },by rw[n5,Array.getElem?_modify,if_pos rfl,Array.getElem?_eq_getElem hj]; rfl,by rw[n5]; exact q0,rfl,rfl⟩ (fun b hb=>by rw[n5] at hb; rw[Array.getElem?_modify,if_neg (fun e=>hb e.symm)])
      rw[e3];simp[Instr.mapUpdate,run_underlying u1,MapKept.run_getObj_map b2,hK.chk _ _ _ _ hdk,hfind,hj,st,MapKept.run_setObj_map _ b2,Result.andThen,mapW]
    ·cases h
   ·cases h
  ·cases h
 | _=>cases h
theorem Yc6 {t:TypeId} {i:TI} {rs:Option Operand} (ho:o.op=.makeMap t rs) (hi:TIok P t i) (hI:Inv g X m w) (hf:FrOK g w (okB X g m) fr a.tmps)
  (h:(bif Nat.beq i.kind 6 && i.mok then (match rs with
   | none=>moNew m g.n i.kty i.ety k
   | some x=>match ev fr x with
    | .d (.int _) _=>moNew m g.n i.kty i.ety k
    | _=>none) else none)=some r):OpR P X o a w g m k kp r:=by
 obtain ⟨h1,h9⟩:=Y2j h;clear h;rw[ba9] at h1;obtain ⟨kt,vt,u1,u2⟩:=hi.map (eb9 h1.1)
 have hk:moNew m g.n i.kty i.ety k=some r/\(execOp a.eval o).run P w=.ok (.value (.map (some w.heap.size))) (w.alloc (.map #[] 0)):=by
  split at h9
  ·refine ⟨h9,?_⟩;unfold execOp;simp[ho,Instr.makeMap,run_newObj_alloc,Result.andThen]
  ·rename_i x0;split at h9
   ·rename_i kd n hx;have hxv:=ev_ok hf x0;rw[hx] at hxv;refine ⟨h9,?_⟩;have hai:(asInt (a.eval x0)).run P w=.ok (n:Int) w:=by rw[Y9b hxv]; rfl
    unfold execOp;simp[ho,Instr.makeMap,run_underlying u1,hai,run_newObj_alloc,Result.andThen]
   ·cases h9
 obtain ⟨hk,hrun⟩:=hk;unfold moNew at hk;split at hk
 ·rename_i tt hety
  let L:Loc:=⟨w.heap.size,0,0,0,false⟩
  have hB0:∀ j,(Blk.mo i.kty tt [] none).has j=false:=fun j=>by
   cases hb:(Blk.mo i.kty tt [] none).has j with
   | false=>rfl
   | true=>exact absurd (has_lt hb) (Nat.not_lt_zero _)
  have hx:=Ext.alloc hI (.map #[] 0) (.mo i.kty tt [] none) L rfl hB0;refine OpR.value (g':=g.new L) hrun hk (hI.alloc _ _ L rfl ?_ hB0) ⟨fun h=>(by cases h),fun _=>⟨.inr rfl,by rw[G.new_self]⟩⟩ hx;refine ⟨by rw[G.new_self],#[],?_,rfl,fun j e p h1=>by simp at h1,fun _ _ e=>by cases e⟩;rw[G.new_self];have:=World.alloc_heap_new w (.map #[] 0);simpa[L] using this
 ·cases hk
theorem bif3 {c1 c2:Bool} {A B D:Option R} (h:(bif c1 then A else bif c2 then B else D)=some r):(bif c1 then A else bif c2 then B else none)=some r \/ D=some r:=by
 cases c1 with
 | true=>exact .inl h
 | false=>cases c2 with
  | true=>exact .inl h
  | false=>exact .inr h
end
section
variable {P:Program} {C:Ctx} {X:Nat->Prop} {R:Type} {o:Oper} {a:Act} {w:World} {g:G} {m:Mem} {k kp:AV->Mem->Nat->Option R} {r:R} {fr:Fr}
theorem Yh {τ:Nat} (hI:Inv g X m w) (hl:Lv g m τ):okB X g ((τ,.gone) :: m) (g.loc τ).blk:=by
 refine ⟨hI.far τ hl,fun hb=>hb.elim (fun ⟨σ,k1,k2⟩=>?_) (fun ⟨σ,i,k1,k2⟩=>?_)⟩
 ·obtain ⟨k3,k4⟩:=Yc rfl k1;exact k4 (hI.inj σ τ k3 hl k2)
 ·exact (hI.sb σ i ((MoLe.cons (fun _=>rfl) rfl).sb k1).1).2.2.1 τ hl k2.symm
theorem Y20 {t:TypeId} {i:TI} {x:Operand} {lo hi:Option Operand} (ho:o.op=.slice t x lo hi none) (hti:TIok P t i) (hI:Inv g X m w) (hf:FrOK g w (okB X g m) fr a.tmps) (h3:Nat.beq i.kind 3=true)
  (h:Y1y i m g.n (fun d=>ioOf fr d lo) (fun d=>ioOf fr d hi) k (ev fr x)=some r):OpR P X o a w g m k kp r:=by
 have hx:=ev_ok hf x;generalize ev fr x=q at h hx;unfold Y1y at h;split at h
 ·rename_i τ;split at h
  ·rename_i n e xs hm;split at h
   ·rename_i l hh e1 e2;obtain ⟨hb,h4⟩:=Y2j h;obtain ⟨h5,h6⟩:=Yft h4;simp only[ba9] at hb;have hn:=eb9 hb.1;have hsz:=eb9 hb.2.1;have hl0:l=0:=by have:=hb.2.2; unfold eqI at this; simpa using this
    subst hl0;subst hn;have bl:=Y9d hf e1;have bh:=Y9d hf e2;obtain ⟨s1,s2,s3⟩:=Yjj h5;obtain ⟨el,fi,d,u1,u2,u3,_⟩:=hti.array (.inl (eb9 h3));obtain ⟨q1,q2,q3⟩:=hx.2 rfl;have q3:=(List.cons.inj q3).1;have hB:=hI.ok τ;rw[hm] at hB;obtain ⟨hb0,_,hnn,c,ee,hheap,hRC⟩:=hB;have hRC:Rd w (okB X g m) (.arr i.alen e) xs c.toList:=hRC;obtain ⟨hlen,hrd⟩:=hRC;have hbo:=Ygv (P:=P) (w:=w) false bl bh ⟨Int.le_refl _,s2,s3⟩ (Nat.le_refl _);have hlive:Lv g m τ:=⟨by rw[hm]; rfl,hnn⟩
    have hcl:(cut (xs:List e.T) 0 hh.toNat).length=hh.toNat:=Y52 (by show 0+hh.toNat <= (xs:List e.T).length; omega);have hR:=fun x cs h=>Rd_len w (okB X g m) e x cs h
    refine OpR.value (cv:=.slice (some ⟨(g.loc τ).blk,0,none⟩) hh.toNat i.alen) (m':=(τ,.gone) :: m) (g':=g) ?_ h6 (hI.kill τ q1) (RV_one rfl ?_) (Ext.kill τ)
    ·unfold execOp;simp[ho,Instr.sliceAt,run_underlying u1,q3,Instr.sureAddr,hbo,sizeOf,typeInfo,u2,add_eq,hb0,Path.off]
    ·refine ⟨some ⟨(g.loc τ).blk,0,none⟩,i.alen,by unfold toN; rw[hcl],by unfold toN; rw[hcl]; omega,.inr ⟨_,c.toList.take (hh.toNat * e.size),rfl,?_,rfl,Yh hI hlive,c,ee,_,hheap,fun j v hv=>?_⟩⟩
     ·have:=(Y13 hR xs c.toList hrd hh.toNat).1;exact Yz (fun x cs=>Y17 (Ext.kill τ).holds _ x cs) _ _ this
     ·have hj:=(List.getElem?_eq_some_iff.1 hv).1;rw[List.length_take] at hj;rw[List.getElem?_take_of_lt (by omega)] at hv;rw[Nat.zero_add];simpa using hv
   ·cases h
  ·cases h
 ·cases h
theorem Y11 {t:Ty} {ok:Nat->Prop} (hR:∀ (x:t.T) cs,Rd w ok t x cs->cs.length=t.size) (xs ys:List t.T) (c1 news:List Value) (h1:RdL (Rd w ok t) xs c1) (h2:RdL (Rd w ok t) ys news) (q:Nat) :
  RdL (Rd w ok t) (over xs ys 0 q) (news.take (q * t.size)++c1.drop (q * t.size)):=by
 unfold over;rw[List.take_zero,List.nil_append,Nat.zero_add];exact Yw _ _ _ _ (Y13 hR ys news h2 q).1 (Y13 hR xs c1 h1 q).2
theorem Y4x {c:Call} {x y:Operand} {t u:TypeId} {i:TI} (ho:o.op=.call c) (hc:c.callee=.builtin .copy) (ha:c.args.toList=[x,y]) (htt:c.argTypes.toList=[t,u]) (hi:TIok P t i) (hI:Inv g X m w)
  (hf:FrOK g w (okB X g m) fr a.tmps) (hb:Nat.beq i.kind 2=true) {ys:List i.ety.T} (hy:Y63 m i.ety (ev fr y)=some ys)
  (h:copyVa m i.ety ys (fun n m=>k (.d (.int .i64) (natI n)) m g.n) (ev fr x)=some r):OpR P X o a w g m k kp r:=by
 obtain ⟨e,fi,ez,k1,k2,k3,k4,k5,k6,k7,k8⟩:=hi.slice (eb9 hb);have hxv:=ev_ok hf x;have hyv:=ev_ok hf y;obtain ⟨news,n1,n2⟩:=Y64 (P:=P) hI hy hyv;have ea:c.args=#[x,y]:=by apply Array.toList_inj.1; simpa using ha
 have et:c.argTypes=#[t,u]:=by apply Array.toList_inj.1; simpa using htt
 have fin:∀ v w',(Builtin.copy_ #[t,u] o.type #[a.eval x,a.eval y]).run P w=.ok v w'->(execOp a.eval o).run P w=.ok (.value v) w':=by
  intro v w' hr;unfold execOp;simp[ho,resolve,hc,ea,et,invoke,builtin,hr]
 have hR:=fun x cs h=>Rd_len w (okB X g m) i.ety x cs h
 generalize ev fr x=q at h hxv;unfold copyVa at h;split at h
 ·rename_i τ p n sz;obtain ⟨hsz,h9⟩:=Y2j h;clear h;have hsz:=eb9 hsz;subst hsz;split at h9
  ·rename_i v hm;split at h9
   ·rename_i t' xs hg;split at h9
    ·rename_i xs' hcv;split at h9
     ·rename_i v' hs;obtain ⟨e1,rfl⟩:=Y4v hcv;subst e1;obtain ⟨q1,q2,q3⟩:=hxv.2 rfl;have q3:=(List.cons.inj q3).1;have hB:=hI.ok τ;rw[hm] at hB;obtain ⟨hb0,hvs,hnn,cc,ee,hheap,hRC⟩:=hB;obtain ⟨c0,c1,c2,f1,f2,f3⟩:=get_ok p v _ hg q2 _ hRC;obtain ⟨hlen,hrd⟩:(xs:List i.ety.T).length=n/\RdL (Rd w (okB X g m) i.ety) xs c1:=f3;have hq:lenMin i.ety ys n <= ys.length:=Nat.min_le_left _ _;have hqn:lenMin i.ety ys n <= n:=Nat.min_le_right _ _;have hmin:Nat.min ys.length n=lenMin i.ety ys n:=rfl;have hcst:(Ty.castTo (rfl:Ty.arr n i.ety=Ty.arr n i.ety) xs)=xs:=rfl;generalize hQ:lenMin i.ety ys n=qq at *;have hcl:=Yx hR xs c1 hrd;rw[hlen] at hcl
      have hnews:(news.take (qq * i.ety.size)).length=qq * i.ety.size:=by
       rw[List.length_take,n2.clen];have:=Nat.mul_le_mul_right i.ety.size hq;omega
      have hqm:qq * i.ety.size <= n * i.ety.size:=Nat.mul_le_mul_right _ hqn
      have hnew:Rd w (okB X g m) (.arr n i.ety) (over (xs:List i.ety.T) ys 0 qq) (news.take (qq * i.ety.size)++c1.drop (qq * i.ety.size)):=by
       exact ⟨(Ydy (xs:=(xs:List i.ety.T)) (by omega) hq).trans hlen,Y11 hR xs ys c1 news hrd n1 qq⟩
      obtain ⟨d0,d1,d2,g1,g2,g3,g4⟩:=set_ok (g:=g) (w:=w) (ok:=okB X g m) (fun τ=>hI.ok τ) p v _ v' hs q2 _ _ hRC hnew
      have hd1:d1.length=n * i.ety.size:=by
       rw[g3,ln9,hnews,List.length_drop,hcl]; omega
      obtain ⟨r1,r2⟩:=List.append_inj (by rw[<- List.append_assoc,<- List.append_assoc,<- g1,f1]:c0++(c1++c2)=d0++(d1++d2)) (by rw[f2,g2]);obtain ⟨r3,r4⟩:=List.append_inj r2 (by rw[hcl,hd1]);subst r1 r3 r4
      have hccl:cc.size=c0.length+c1.length+c2.length:=by
       have:=congrArg List.length f1;simp at this; omega
      have hst:=run_storeCells_at P (g.loc τ).blk ((g.loc τ).base+Path.off p) ee (news.take (qq * i.ety.size)) 0 cc w hheap (by rw[hnews,hb0]; omega) (fun v hv=>n2.one v (List.mem_of_mem_take hv));simp only[Nat.add_zero] at hst
      have hnc:(cc.toList.take ((g.loc τ).base+Path.off p)++news.take (qq * i.ety.size)++cc.toList.drop ((g.loc τ).base+Path.off p+(news.take (qq * i.ety.size)).length))=c0++(news.take (qq * i.ety.size)++c1.drop (qq * i.ety.size))++c2:=by
       rw[hnews,hb0,Nat.zero_add,<- f2,f1,la9 c0 c1 c2,List.take_left,<- List.drop_drop,List.drop_left,List.drop_append_of_le_length (by rw[hcl]; exact hqm)];simp only[la9]
      rw[hnc] at hst;have hlive:Lv g m τ:=⟨by rw[hm]; rfl,hnn⟩
      generalize hNC:c0++(news.take (qq * i.ety.size)++c1.drop (qq * i.ety.size))++c2=nc at hst g4;have hoth:∀ b,b ≠ (g.loc τ).blk->(w.setRow (g.loc τ).blk nc.toArray).heap[b]?=w.heap[b]?:=fun b hb=>setRow_other w _ b _ hb
      have hh':=setRow_heap w (g.loc τ).blk cc nc.toArray ee _ hheap;have hs':=Yhv w (g.loc τ).blk nc.toArray;have hx':=Ext.upd (B':=.var v') hlive hs' hoth rfl rfl rfl;have hfst:=n2.first w qq rfl hq
      have hln:=n2.len w;refine OpR.value (cv:=.int .i64 (natI qq)) (m':=(τ,.var v') :: m) (g':=g) (fin _ _ ?_) h9 (hI.upd hlive hs' hoth rfl rfl rfl ?_) (int_mk _ _) hx'
      ·simp[Builtin.copy_,run_underlying k1,q3,hln,sizeOf,typeInfo,k2,k3,hmin,hfst,hst,goInt,natI]
      ·exact ⟨hb0,Yhw p v _ v' hs hvs rfl,hnn,_,ee,hh',Yj (GExt.refl g) (hx'.holds) _ _ g4⟩
     ·cases h9
    ·cases h9
   ·cases h9
  ·cases h9
 ·cases h
theorem Y14 {ok:Nat->Prop} {t:Ty} {xs:List t.T} {ad:Option Addr} {len cap:Nat} (h:Rd w ok (.slice t) xs [.slice ad len cap]) {l n q:Nat} (hb:l+n <= q) (hq:q <= xs.length) :
  Rd w ok (.slice t) (cut xs l n) [.slice (if q=l then ad else ad.map (·.add (l * t.size))) n (q - l)]:=by
 obtain ⟨e1,e2,ad2,cap2,e3,e4,e5⟩:=Rd_cut h (l:=l) (n:=n) (by omega);have hl:(cut xs l n).length=n:=Y52 (by omega);refine ⟨_,_,by rw[hl],by rw[hl]; omega,?_⟩;by_cases hn:n=0
 ·left; exact List.eq_nil_of_length_eq_zero (by rw[hl]; exact hn)
 ·have e3:=(List.cons.inj e3).1;simp only[Value.slice.injEq] at e3;rw[if_neg (by omega)] at e3;rw[if_neg (by omega),e3.1];exact e5
theorem Ygw {len cap:Nat} {low:Option Value} {kh kq:IntKind} {l h q:Int} (hl:Bnd 0 low l) (hb:0 <= l/\l <= h/\h <= q/\q <= cap) :
  (Instr.sliceBounds true len cap low (some (.int kh h)) (some (.int kq q))).run P w=.ok (l.toNat,h.toNat,q.toNat) w:=by
 obtain ⟨b1,b2,b3,b4⟩:=hb;obtain ⟨qn,rfl⟩:∃ n:Nat,q=n:=⟨q.toNat,by omega⟩
 obtain ⟨hn,rfl⟩:∃ n:Nat,h=n:=⟨h.toNat,by omega⟩
 simp only[Int.toNat_natCast]
 have e0:∀ (code:BoundsCode),(Instr.sliceBound (.int kq qn) cap code).run P w=.ok qn w:=by
  intro code;have hc:0 <= (qn:Int)/\(qn:Int) <= (cap:Int):=by omega
  simp only[Instr.sliceBound,asIntOf,Sem.run_bind,Sem.run_pure,Result.andThen_ok,if_pos hc,Int.toNat_natCast]
 have e1:∀ (code:BoundsCode),(Instr.sliceBound (.int kh hn) qn code).run P w=.ok hn w:=by
  intro code;have hc:0 <= (hn:Int)/\(hn:Int) <= (qn:Int):=by omega
  simp only[Instr.sliceBound,asIntOf,Sem.run_bind,Sem.run_pure,Result.andThen_ok,if_pos hc,Int.toNat_natCast]
 have e2:∀ (kk:IntKind) (code:BoundsCode),(Instr.sliceBound (.int kk l) hn code).run P w=.ok l.toNat w:=by
  intro kk code;have hc:0 <= l/\l <= (hn:Int):=by omega
  simp only[Instr.sliceBound,asIntOf,Sem.run_bind,Sem.run_pure,Result.andThen_ok,if_pos hc]
 rcases hl with ⟨rfl,rfl⟩ | ⟨kl,rfl⟩
 ·simp[Instr.sliceBounds,e0,e1]
 ·simp[Instr.sliceBounds,e0,e1,e2]
theorem Yib {t:TypeId} {i:TI} {x hi mx:Operand} {lo:Option Operand} (ho:o.op=.slice t x lo (some hi) (some mx)) (hti:TIok P t i) (hI:Inv g X m w) (hf:FrOK g w (okB X g m) fr a.tmps) {e:Ty} {xs:List e.T} (hx:RV g w (okB X g m) (.d (.slice e) xs) (a.eval x))
  (hb:(Nat.beq i.kind 2 && Nat.beq e.size i.ety.size)=true) {l h q:Int} (e1:ioOf fr 0 lo=some l) (e2:ioOf fr 0 (some hi)=some h) (e3:ioOf fr 0 (some mx)=some q)
  (hh:req (sub3 l h (lenL e xs) && sub3 h q (lenL e xs)) (k (.d (.slice e) (cut xs (toN l) (toN h - toN l))) m g.n)=some r):OpR P X o a w g m k kp r:=by
 rw[ba9] at hb;obtain ⟨h3,h4⟩:=Yft hh;rw[ba9] at h3;obtain ⟨s1,s2,s3⟩:=Yjj h3.1;obtain ⟨s4,s5,s6⟩:=Yjj h3.2;obtain ⟨el,fi,ez,k1,k2,k3,_⟩:=hti.slice (eb9 hb.1);have hsz:fi.size=e.size:=k3.trans (eb9 hb.2).symm;have hrd:=hx.2 rfl;obtain ⟨ad,cap,f1,f2,_⟩:=id hrd;have f1:=(List.cons.inj f1).1;rw[f1] at hrd;have bl:=Y9d hf e1
 obtain ⟨kh,bh⟩:∃ kh,a.eval hi=.int kh h:=by
  rcases Y9d hf e2 with ⟨q1,_⟩ | ⟨kk,q1⟩
  ·cases q1
  ·exact ⟨kk,by simpa using q1⟩
 obtain ⟨kq,bq⟩:∃ kq,a.eval mx=.int kq q:=by
  rcases Y9d hf e3 with ⟨q1,_⟩ | ⟨kk,q1⟩
  ·cases q1
  ·exact ⟨kk,by simpa using q1⟩
 unfold lenL at s3 s6;have hcut:=Y14 hrd (l:=l.toNat) (n:=h.toNat - l.toNat) (q:=q.toNat) (by omega) (by omega);have hbo:=Ygw (P:=P) (w:=w) (len:=xs.length) (cap:=cap) (kh:=kh) (kq:=kq) bl ⟨s1,s2,s5,by omega⟩;refine OpR.value (cv:=.slice (if q.toNat=l.toNat then ad else ad.map (·.add (l.toNat * e.size))) (h.toNat - l.toNat) (q.toNat - l.toNat)) ?_ h4 hI (RV_one rfl hcut) (Ext.refl _ _ _);unfold execOp;simp[ho,Instr.sliceAt,run_underlying k1,Instr.slice,f1,bh,bq,hbo,sizeOf,typeInfo,k2,hsz]
theorem Yia {t:TypeId} {i:TI} {x:Operand} {lo hi:Option Operand} (ho:o.op=.slice t x lo hi none) (hti:TIok P t i) (hI:Inv g X m w) (hf:FrOK g w (okB X g m) fr a.tmps)
  (h:(bif Nat.beq i.kind 3 && hi.isSome then Y1y i m g.n (fun d=>ioOf fr d lo) (fun d=>ioOf fr d hi) k (ev fr x) else sliceA i m (fun d=>ioOf fr d lo) (fun d=>ioOf fr d hi) (fun v=>k v m g.n) (ev fr x))=some r):OpR P X o a w g m k kp r:=by
 cases hb:(Nat.beq i.kind 3 && hi.isSome) with
 | true =>
  rw[hb,cond_true] at h;rw[ba9] at hb;exact Y20 ho hti hI hf hb.1 h
 | false =>
  rw[hb,cond_false] at h;exact Yid ho hti hI hf h
end
end Go.Proofs.YtifbgkikkiallaaGreat.VX

