import Derived.Test.YtifbgkikkiallaaGreatEdgesRunE4
import Derived.LoopN
set_option linter.unusedVariables false
set_option linter.unusedSimpArgs false
namespace Go.Proofs.YtifbgkikkiallaaGreat.VX
def ArgsOK (g:G) (w:World) (ok:Nat->Prop):List AV->List Value->Prop
 | [],[]=>True
 | a :: l,v :: m=>RV g w ok a v/\ArgsOK g w ok l m
 | _,_=>False
theorem ArgsOK.append {g:G} {w:World} {ok:Nat->Prop}:∀ {l l':List AV} {v v':List Value},ArgsOK g w ok l v->ArgsOK g w ok l' v'->ArgsOK g w ok (l++l') (v++v')
 | [],l',[],v',_,h=>h
 | a :: l,l',b :: v,v',⟨h1,h2⟩,h=>⟨h1,ArgsOK.append h2 h⟩
theorem ArgsOK.mono {g g':G} {w w':World} {ok ok':Nat->Prop} (hg:GExt g g') (hh:Holds w ok w' ok'):∀ {l:List AV} {v:List Value},ArgsOK g w ok l v->ArgsOK g' w' ok' l v
 | [],[],_=>trivial
 | a :: l,b :: v,⟨h1,h2⟩=>⟨Yt hg hh h1,ArgsOK.mono hg hh h2⟩
def Y3 {R:Type} (X:Nat->Prop) (g:G) (m:Mem) (w:World) (k kp:AV->Mem->Nat->Option R) (r:R) (e:Ending) (w':World):Prop :=
 (∃ v m' g' cv,e=.returned cv/\k v m' g'.n=some r/\Inv g' X m' w'/\RV g' w' (okB X g' m') v cv/\Ext g m w g' m' w') \/
 (∃ v m' g' cv,e=.panicked [{ v:=cv,recovered:=false }]/\kp v m' g'.n=some r/\Inv g' X m' w'/\RV g' w' (okB X g' m') v cv/\Ext g m w g' m' w')
def Spec.Uni (s:Spec):Prop:=∀ (args:List AV) (m:Mem) (N:Nat) {R:Type} (k kp:AV->Mem->Nat->Option R) (r:R),s.run args m N k kp=some r ->
 (∃ v δ N',∀ {R':Type} (k' kp':AV->Mem->Nat->Option R'),s.run args m N k' kp'=k' v (δ++m) N') \/
 (∃ v δ N',∀ {R':Type} (k' kp':AV->Mem->Nat->Option R'),s.run args m N k' kp'=kp' v (δ++m) N')
theorem Y7n (τ:Nat) (m:Mem):∃ δ,frz1 τ m=δ++m:=by
 unfold frz1; split
 ·exact ⟨[_],rfl⟩
 ·exact ⟨[],rfl⟩
theorem Y7p:∀ (l:List Nat) (m:Mem),∃ δ,frzL l m=δ++m
 | [],m=>⟨[],rfl⟩
 | τ :: l,m=>by
  obtain ⟨d1,h1⟩:=Y7n τ m;obtain ⟨d2,h2⟩:=Y7p l (frz1 τ m);exact ⟨d2++d1,by show frzL l (frz1 τ m)=_; rw[h2,la9,<- h1]⟩
def Y6p (n nt:Nat):Code->List RT
 | .seq a b=>Y6p n nt a++Y6p n nt b
 | .cond _ a b=>Y6p n nt a++Y6p n nt b
 | .block _ a=>Y6p n nt a
 | .scope a=>Y6p n nt a
 | .loop a=>Y6p n nt a
 | .rangeFunc _ ps as body=>(bif Nat.beq (Code.firstId as) n then [⟨ps,as,body,nt⟩] else [])++Y6p n nt body
 | _=>[]
def rtOf (P:Program) (id:Nat):Option RT:=match P.funcs[id / 65536]? with
 | some fn=>match fn.body with
  | some c=>(Y6p (id % 65536) fn.ntmps c)[0]?
  | none=>none
 | none=>none
def Sound (P:Program) (f:FuncId) (s:Spec):Prop :=
 s.Uni /\
 (∃ fn,P.funcs[f]?=some fn/\fn.body.isSome=true/\fn.name ≠ "runtime.NumGoroutine") /\
 ∀ {R:Type} (args:List AV) (m:Mem) (g:G) (k kp:AV->Mem->Nat->Option R) (r:R) (X:Nat->Prop) (w:World) (vs:List Value),
  s.run args m g.n k kp=some r->Inv g X m w->g.rt=rtOf P->ArgsOK g w (okB X g m) args vs->Calls P f vs.toArray w (Y3 X g m w k kp r)
def recOf (rt:RT) (fn:FuncId) (tmps:Array Value) (D:Nat) (st:LoopState) (pe:Option Code):Loop :=
 { state:=st,pending:=pe,fn:=fn,tmps:=tmps,params:=rt.ps,assign:=rt.as,body:=rt.body,defers:=D }
def YSound (P:Program) (id:Nat) (sl:List Nat) (s:Spec):Prop :=
 s.Uni/\∃ rt,rtOf P id=some rt /\
 ∀ {R:Type} (ls args:List AV) (m:Mem) (g:G) (k kp:AV->Mem->Nat->Option R) (r:R) (X:Nat->Prop) (w:World) (vals:List Value) (fn:FuncId) (tmps:Array Value) (l D:Nat),
  s.run (ls++args) m g.n k kp=some r->Inv g X m w->g.rt=rtOf P->ArgsOK g w (okB X g m) ls (sl.map fun t=>tmps.getD t undef)->ArgsOK g w (okB X g m) args vals ->
  tmps.size=rt.nt->X l->w.heap[l]?=some (.loop (recOf rt fn tmps D .ready none)) ->
  vals.length=rt.ps.size/\∀ rd,RoundIn (FR rd) 0 P l fn ((rt.ps.zip vals.toArray).foldl (fun tmps (t,a)=>tmps.setIfInBounds t a) tmps) rt.as rt.body w (fun e w'=>∃ v m' g' cv kd t st pe,e=.returned (.bool (eqI t 0))/\k v m' g'.n=some r/\v=.d (.int kd) t /\
   Inv g' X m' w'/\RV g' w' (okB X g' m') v cv/\Ext g m w g' m' (w'.putObj l (.loop (recOf rt fn tmps D .ready none)))/\w'.heap[l]?=some (.loop (recOf rt fn tmps D st pe))/\TagOK t st pe)
structure CtxOK (P:Program) (C:Ctx):Prop where
 miss:∀ (R:Type) f cl args m N k kp,C.miss (R:=R) f cl args m N k kp=none
 ys:∀ id sl s,ysget id C.ys=some (sl,s)->YSound P id sl s
 tb:∀ t i,tget t C.tb=some i->TIok P t i
 fx:∀ f cl s,fxget f cl C.fx=some s->Sound P f s
 mixed:P.follows .mixedOrders=true
section
variable {P:Program} {C:Ctx} {X:Nat->Prop} {R:Type} {o:Oper} {a:Act} {w:World} {g:G} {m:Mem} {k kp:AV->Mem->Nat->Option R} {r:R} {fr:Fr}
theorem Y7k {v:AV} {k:AV->Option R} (h:v.force k=some r):k v=some r:=by cases v <;> exact h
theorem Ya8 {ok:Nat->Prop}:∀ (v:AV) (l:List AV) (vs:List Value),listAV v=some l->RL g w ok v vs->ArgsOK g w ok l vs
 | .nil,l,vs,h,hr=>by cases h; cases hr; trivial
 | .cons a b,l,vs,h,⟨cv,l',e,h1,h2⟩=>by
  simp only[listAV] at h;split at h
  ·rename_i l2 hl2;cases h; subst e;exact ⟨h1,Ya8 b l2 l' hl2 h2⟩
  ·cases h
 | .d _ _,_,_,h,_=>by cases h
 | .pr _ _,_,_,h,_=>by cases h
 | .one _,_,_,h,_=>by cases h
 | .nl,_,_,h,_=>by cases h
 | .sl _,_,_,h,_=>by cases h
 | .vw _ _ _ _,_,_,h,_=>by cases h
 | .ptr _ _,_,_,h,_=>by cases h
 | .va _ _ _ _,_,_,h,_=>by cases h
 | .nilp,_,_,h,_=>by cases h
 | .pv _ _,_,_,h,_=>by cases h
 | .mp _,_,_,h,_=>by cases h
 | .nilm,_,_,h,_=>by cases h
 | .fn _ _ _,_,_,h,_=>by cases h
 | .nilf,_,_,h,_=>by cases h
 | .ifc _ _,_,_,h,_=>by cases h
 | .nili,_,_,h,_=>by cases h
 | .tu _,_,_,h,_=>by cases h
 | .dead,_,_,h,_=>by cases h
theorem Y1w {ok:Nat->Prop} {a:Act} (hf:FrOK g w ok fr a.tmps):∀ (l:List Operand),ArgsOK g w ok (l.map (ev fr)) (l.map a.eval)
 | []=>trivial
 | x :: l=>⟨ev_ok hf x,Y1w hf l⟩
theorem Y34 {c:Call} {f:Operand} (ho:o.op=.call c) (hc:c.callee=.value f) {gf:FuncId} {first cap:AV} (hv:ev fr f=.fn gf first cap) {l1 l2:List AV} (h1:listAV first=some l1) (h2:listAV cap=some l2)
  {s:Spec} (hs:Sound P gf s) (hI:Inv g X m w) (hrt:g.rt=rtOf P) (hf:FrOK g w (okB X g m) fr a.tmps) (h:s.run (l1++c.args.toList.map (ev fr)++l2) m g.n k kp=some r):OpR P X o a w g m k kp r:=by
 intro rd next Q hn hp
 have hx:=ev_ok hf f;rw[hv] at hx;obtain ⟨fs,ks,q1,q2,q3⟩:=hx.2 rfl;have q3:=(List.cons.inj q3).1;obtain ⟨_,⟨fn,e1,e2,e3⟩,hcall⟩:=hs;have hargs:=((Ya8 first l1 fs h1 q1).append (Y1w hf c.args.toList)).append (Ya8 cap l2 ks h2 q2);have hcalls:=hcall _ m g k kp r X w _ h hI hrt hargs
 have hrun:(execOp a.eval o).run P w=.ok (.enter gf ((fs++c.args.toList.map a.eval++ks).toArray)) w:=by
  have e4:fs.toArray++c.args.map a.eval++ks.toArray=(fs++c.args.toList.map a.eval++ks).toArray:=by
   apply Array.toList_inj.1; simp
  have e5:fn.body.isNone=false:=by rw[Option.isNone_eq_false_iff]; exact e2
  have e6:(fn.name == "runtime.NumGoroutine")=false:=by simpa using e3
  unfold execOp;simp only[ho,resolve,hc,q3,Deferred.ofValue,Sem.run_bind,Sem.run_pure,Result.andThen_ok,invoke,callFunc,run_program,e1,e6,e5,e4,if_false,Bool.false_eq_true]
 refine ⟨fun _ _=>trivial,?_⟩;rw[show (FR rd).round=rd from rfl,Yhj hrun (fun d e=>by cases e)];refine ⟨fun h=>(by cases h),?_⟩;have hcI:CallsIn (FR rd) 0 P gf _ w _:=callsIn_wide.2 hcalls;refine hcI.mono fun e w' hpost=>?_
 rcases hpost with ⟨v,m',g',cv,rfl,k1,k2,k3,k4⟩ | ⟨v,m',g',cv,rfl,k1,k2,k3,k4⟩
 ·exact hn v m' g' cv w' k1 k2 k3 k4
 ·exact hp v m' g' cv w' k1 k2 k3 k4
theorem bool_mk' {g:G} {w:World} {ok:Nat->Prop} (b:Bool):RV g w ok (.d .bool b) (.bool b):=⟨fun h=>(by cases h),fun _=>rfl⟩
theorem Inv.putX {g:G} {X:Nat->Prop} {m:Mem} {w:World} (hI:Inv g X m w) {l:Nat} (hl:X l) (ob:Obj):Inv g X m (w.putObj l ob):=by
 have hH:Holds w (okB X g m) (w.putObj l ob) (okB X g m):=fun b hb _=>⟨hb,World.putObj_heap_other (fun e=>hb.1 (e ▸ hl))⟩
 refine ⟨fun τ=>?_,hI.inj,hI.far,fun b hb=>by rw[World.putObj_size]; exact hI.xlt b hb,hI.fresh,hI.dlt,fun τ i h=>by rw[World.putObj_size]; exact hI.sb τ i h⟩;by_cases hd:g.dom τ
 ·exact Y1 (GExt.refl g) hH hd (fun h1 h2=>World.putObj_heap_other (fun e=>hI.far τ ⟨h1,h2⟩ (e ▸ hl))) (fun i h1=>⟨rfl,fun h2=>World.putObj_heap_other (fun e=>(hI.sb τ i ⟨h1,h2⟩).2.1 (e ▸ hl))⟩) (hI.ok τ)
 ·rw[hI.fresh τ hd]; trivial
theorem Inv.toX {g:G} {X:Nat->Prop} {m:Mem} {w:World} (hI:Inv g X m w) {τ:Nat} (hl:Lv g m τ):Inv g (fun b=>X b \/ b=(g.loc τ).blk) ((τ,.gone) :: m) w:=by
 have hd:=hI.live_lt hl.1;have hlv:∀ σ,Lv g ((τ,.gone) :: m) σ->Lv g m σ/\σ ≠ τ:=fun σ h=>Yc rfl h
 have hH:Holds w (okB X g m) w (okB (fun b=>X b \/ b=(g.loc τ).blk) g ((τ,.gone) :: m)):=fun b hb _ =>
  ⟨⟨fun h=>h.elim hb.1 (fun e=>hb.2 (hl.own e.symm)),fun h=>hb.2 (h.drop rfl)⟩,rfl⟩
 refine ⟨fun σ=>?_,fun σ σ' h1 h2 e=>hI.inj σ σ' (hlv σ h1).1 (hlv σ' h2).1 e,fun σ h1 h2=>?_,fun b hb=>hb.elim (hI.xlt b) (fun e=>by subst e; exact hI.heap_lt hl),fun σ hs=>?_,hI.dlt,fun σ i h=>?_⟩
 ·rw[Ybs];split
  ·trivial
  ·by_cases hs:g.dom σ
   ·exact Y1 (GExt.refl g) hH hs (fun _ _=>rfl) (fun _ _=>⟨rfl,fun _=>rfl⟩) (hI.ok σ)
   ·rw[hI.fresh σ hs]; trivial
 ·obtain ⟨h3,h4⟩:=hlv σ h1;rcases h2 with h2 | h2
  ·exact hI.far σ h3 h2
  ·exact h4 (hI.inj σ τ h3 hl h2)
 ·rw[Ybs];split
  ·rfl
  ·exact hI.fresh σ hs
 ·have hmo:MoLe g m g ((τ,.gone) :: m):=MoLe.cons (fun _=>rfl) rfl;obtain ⟨k1,k2,k3,k4⟩:=hI.sb σ i (hmo.sb h).1;exact ⟨k1,fun q=>q.elim k2 (fun e=>k3 τ hl e.symm),fun σ' h'=>k3 σ' (hlv σ' h').1,fun σ' j h'=>k4 σ' j (hmo.sb h').1⟩
theorem Y8n {g:G} {X:Nat->Prop} {m:Mem} {w:World} {τ:Nat} (hl:Lv g m τ):Holds w (okB X g m) w (okB (fun b=>X b \/ b=(g.loc τ).blk) g ((τ,.gone) :: m)):=fun b hb _ =>
 ⟨⟨fun h=>h.elim hb.1 (fun e=>hb.2 (hl.own e.symm)),fun h=>hb.2 (h.drop rfl)⟩,rfl⟩
theorem Yks {c:Call} {f:Operand} (ho:o.op=.call c) (hc:c.callee=.value f) {τ id:Nat} {slots:List Nat} {sv:AV} (hv:ev fr f=.yl τ) (hm:mget τ m=.lp id slots sv 0) {s:Spec} (hs:YSound P id slots s)
  {l:List AV} (hl:listAV sv=some l) (hI:Inv g X m w) (hrt:g.rt=rtOf P) (hf:FrOK g w (okB X g m) fr a.tmps)
  (h:s.run (l++c.args.toList.map (ev fr)) ((τ,.gone) :: m) g.n (fun v m N=>match v with
       | .d (.int _) t=>cond (eqI t 0) (k (.d .bool true) ((τ,.lp id slots sv 0) :: m) N) (k (.d .bool false) ((τ,.lp id slots sv t) :: m) N)
       | _=>none) (fun _ _ _=>none)=some r):OpR P X o a w g m k kp r:=by
 intro rd next Q hn hp
 have hx:=ev_ok hf f;rw[hv] at hx;obtain ⟨q1,q2⟩:=hx.2 rfl;have q2:=(List.cons.inj q2).1;have hB:=hI.ok τ;rw[hm] at hB;obtain ⟨b1,rt,fn,tmps,D,st,pe,vs,b2,b3,b4,b5,b6,b7⟩:=hB
 have hst:st=.ready/\pe=none:=by
  rcases b7 with ⟨_,h1,h2⟩ | ⟨h1,_⟩ | ⟨i,h1,_⟩
  ·exact ⟨h1,h2⟩
  ·omega
  ·omega
 obtain ⟨rfl,rfl⟩:=hst;have hlv:Lv g m τ:=⟨by rw[hm]; rfl,b1⟩
 obtain ⟨_,rt',e1,hrun⟩:=hs;have:rt'=rt:=by rw[hrt,e1] at b2; exact oi9 b2
 subst this;have hls:=Ya8 sv l vs hl b5;rw[b6] at hls;have hH:=Y8n (X:=X) (w:=w) hlv;obtain ⟨k1,k2⟩:=hrun l (c.args.toList.map (ev fr)) _ g _ _ r (fun b=>X b \/ b=(g.loc τ).blk) w (c.args.toList.map a.eval) fn tmps (g.loc τ).blk D h (hI.toX hlv) hrt (hls.mono (GExt.refl g) hH) ((Y1w hf c.args.toList).mono (GExt.refl g) hH) b4 (.inr rfl) b3;have e4:(c.args.toList.map a.eval).toArray=c.args.map a.eval:=by apply Array.toList_inj.1; simp
 rw[e4] at k2;have hy:=run_yield (P:=P) (args:=c.args.map a.eval) b3 (by simpa using k1)
 have hrunY:(execOp a.eval o).run P w=.ok (.round (g.loc τ).blk fn ((rt'.ps.zip (c.args.map a.eval)).foldl (fun tmps (t,a)=>tmps.setIfInBounds t a) tmps) rt'.as rt'.body) w:=by
  unfold execOp;simp only[ho,resolve,hc,q2,Deferred.ofValue,Sem.run_bind,Sem.run_pure,Result.andThen_ok,invoke,callFunc];simpa using hy
 refine ⟨fun _ _=>trivial,?_⟩;rw[show (FR rd).round=rd from rfl,Yhj hrunY (fun d e=>by cases e)];refine ⟨fun h=>(by cases h),?_⟩;refine (k2 rd).mono fun e w' hpost=>?_
 obtain ⟨v,m',g',cv,kd,t,st,pe,rfl,p1,rfl,p2,p3,p4,p5,p6⟩:=hpost;simp only at p1;have hblk:w'.heap[(g.loc τ).blk]?=some (.loop (recOf rt' fn tmps D st pe)):=p5;have hlt:=Yb1 b3
 have hkeep:∀ b,b < w.heap.size->b ≠ (g.loc τ).blk->¬ Own g ((τ,.gone) :: m) b->w'.heap[b]?=w.heap[b]?:=fun b h1 h2 h3=>by
  rw[<- p4.keep b h1 h3,World.putObj_heap_other h2]
 have hlo:=p4.gx.2 τ q1
 have hown2:∀ b,Own g' ((τ,.lp id slots sv t) :: m') b->b=(g.loc τ).blk \/ Own g' m' b:=by
  intro b hb;rcases hb with ⟨σ,h1,h2⟩ | hb
  ·by_cases e:σ=τ
   ·subst e; left; rw[<- h2,hlo.2]
   ·obtain ⟨h3,h4⟩:=h1;rw[Ybs,if_neg (fun e'=>e e'.symm)] at h3;exact .inr (.inl ⟨σ,⟨h3,h4⟩,h2⟩)
  ·exact .inr (.inr ((MoLe.cons (fun _=>rfl) rfl).own hb))
 have hH2:Holds w' (okB (fun b=>X b \/ b=(g.loc τ).blk) g' m') w' (okB X g' ((τ,.lp id slots sv t) :: m')):=fun b hb _ =>
  ⟨⟨fun h=>hb.1 (.inl h),fun h=>(hown2 b h).elim (fun e=>hb.1 (.inr e)) hb.2⟩,rfl⟩
 have hH1:Holds w (okB X g m) w' (okB X g' ((τ,.lp id slots sv t) :: m')):=by
  rintro b ⟨h1,h2⟩ ⟨c1,e1,f1,h3⟩;have hb:=Yb1 h3;have hne:b ≠ (g.loc τ).blk:=fun e=>h2 (hlv.own e.symm)
  have hno:¬ Own g ((τ,.gone) :: m) b:=fun h=>h2 (h.drop rfl)
  refine ⟨⟨h1,fun h=>?_⟩,hkeep b hb hne hno⟩;rcases hown2 b h with h | h
  ·exact hne h
  ·exact (p4.own b h).elim hno (by omega)
 have hlvN:∀ σ,Lv g' ((τ,.lp id slots sv t) :: m') σ->σ ≠ τ->Lv g' m' σ:=by
  rintro σ ⟨h3,h4⟩ e;rw[Ybs,if_neg (fun e'=>e e'.symm)] at h3;exact ⟨h3,h4⟩
 have hI':Inv g' X ((τ,.lp id slots sv t) :: m') w':=by
  refine ⟨fun σ=>?_,fun σ σ' h1 h2 e=>?_,fun σ h1 h2=>?_,fun b hb=>p2.xlt b (.inl hb),fun σ hd=>?_,p2.dlt,fun σ i h=>?_⟩
  ·rw[Ybs];split
   ·rename_i e; subst e;refine ⟨by rw[hlo.2]; exact b1,rt',fn,tmps,D,st,pe,vs,by rw[p4.gx.1.2]; exact b2,by rw[hlo.2]; exact hblk,b4,Yl p4.gx hH1 sv vs b5,b6,p6⟩
   ·by_cases hd:g'.dom σ
    ·exact Y1 (GExt.refl g') hH2 hd (fun _ _=>rfl) (fun _ _=>⟨rfl,fun _=>rfl⟩) (p2.ok σ)
    ·rw[p2.fresh σ hd]; trivial
  ·by_cases e1:σ=τ
   ·by_cases e2:σ'=τ
    ·rw[e1,e2]
    ·subst e1;have:=p2.far σ' (hlvN σ' h2 e2);rw[<- e,hlo.2] at this;exact absurd (.inr rfl) this
   ·by_cases e2:σ'=τ
    ·subst e2;have:=p2.far σ (hlvN σ h1 e1);rw[e,hlo.2] at this;exact absurd (.inr rfl) this
    ·exact p2.inj σ σ' (hlvN σ h1 e1) (hlvN σ' h2 e2) e
  ·by_cases e1:σ=τ
   ·subst e1; rw[hlo.2] at h2; exact hI.far σ hlv h2
   ·exact p2.far σ (hlvN σ h1 e1) (.inl h2)
  ·rw[Ybs];split
   ·rename_i e; subst e; exact absurd hlo.1 hd
   ·exact p2.fresh σ hd
  ·have hmo:MoLe g' m' g' ((τ,.lp id slots sv t) :: m'):=MoLe.cons (fun _=>rfl) rfl;obtain ⟨k1,k2,k3,k4⟩:=p2.sb σ i (hmo.sb h).1;refine ⟨k1,fun q=>k2 (.inl q),fun σ' h' e=>?_,fun σ' j h'=>k4 σ' j (hmo.sb h').1⟩;by_cases e1:σ'=τ
   ·subst e1; rw[hlo.2] at e; exact k2 (.inr e.symm)
   ·exact k3 σ' (hlvN σ' h' e1) e
 have hX':Ext g m w g' ((τ,.lp id slots sv t) :: m') w':=by
  refine ⟨p4.gx,p4.nw,by have:=p4.size; rwa [World.putObj_size] at this,fun b hb hno=>?_,fun b hb=>?_,p4.os,p4.tape,p4.output⟩
  ·exact hkeep b hb (fun e=>hno (hlv.own e.symm)) (fun h=>hno (h.drop rfl))
  ·rcases hown2 b hb with h | h
   ·exact .inl (hlv.own h.symm)
   ·exact (p4.own b h).imp (fun h=>h.drop rfl) (fun h=>h)
 show next (a.put o.dst _) w'
 cases ht:eqI t 0 with
 | true =>
  rw[ht] at p1;have:t=0:=by simpa[eqI] using ht
  subst this;exact hn _ _ g' (.bool true) w' p1 hI' (bool_mk' true) hX'
 | false =>
  rw[ht] at p1;exact hn _ _ g' (.bool false) w' p1 hI' (bool_mk' false) hX'
theorem len_ok {c:Call} {x:Operand} {t:TypeId} {i:TI} (ho:o.op=.call c) (hc:c.callee=.builtin .len) (ha:c.args.toList=[x]) (ht:c.argTypes.toList=[t]) (hi:TIok P t i) (hI:Inv g X m w)
  (hf:FrOK g w (okB X g m) fr a.tmps) {n:Int} (hn:lenA m i.kind i.alen (ev fr x)=some n) (h:k (.d (.int .i64) n) m g.n=some r):OpR P X o a w g m k kp r:=by
 have hx:=ev_ok hf x;have ea:c.args=#[x]:=by apply Array.toList_inj.1; simpa using ha
 have et:c.argTypes=#[t]:=by apply Array.toList_inj.1; simpa using ht
 have fin:(Builtin.len_ #[t] o.type #[a.eval x]).run P w=.ok (.int .i64 n) w->OpR P X o a w g m k kp r:=by
  intro hr;refine OpR.value ?_ h hI (int_mk _ _) (Ext.refl _ _ _);unfold execOp;simp[ho,resolve,hc,ea,et,invoke,builtin,hr]
 have slc:∀ (b:Option Addr) (l cap:Nat),i.kind=2->a.eval x=.slice b l cap->n=l->OpR P X o a w g m k kp r:=by
  intro b l cap hk e hnl;obtain ⟨el,fi,ez,k1,_⟩:=hi.slice hk;exact fin (by simp[Builtin.len_,run_underlying k1,e,goInt,hnl])
 have arr:i.kind=3->n=i.alen->OpR P X o a w g m k kp r:=by
  intro hk hnl;obtain ⟨e,fi,d,u1,_⟩:=hi.array (.inl hk);exact fin (by simp[Builtin.len_,run_underlying u1,goInt,hnl])
 generalize hq:ev fr x=q at hn hx;cases q with
 | d ty xs =>
  cases ty with
  | slice e =>
   obtain ⟨h1,h2⟩:=Y2j hn;obtain ⟨ad,cap,e1,_⟩:=hx.2 rfl;exact slc ad _ cap (eb9 h1) (List.cons.inj e1).1 (oi9 h2).symm
  | str =>
   obtain ⟨h1,h2⟩:=Y2j hn;obtain ⟨ba,e1,e2⟩:=Yji hx;refine fin ?_;have h3:(ba.size:Int)=n:=by rw[<- Option.some.inj h2,Yi3,e2]
   simp[Builtin.len_,run_underlying (hi.str (eb9 h1)),e1,goInt,h3]
  | _=>obtain ⟨h1,h2⟩:=Y2j hn; exact arr (eb9 h1) (oi9 h2).symm
 | nl =>
  obtain ⟨h1,h2⟩:=Y2j hn;exact slc none 0 0 (eb9 h1) (List.cons.inj (hx.2 rfl)).1 (oi9 h2).symm
 | sl τ =>
  obtain ⟨h1,h2⟩:=Y2j hn;obtain ⟨k1,k2⟩:=sl_get hx;have hB:=hI.ok τ;cases hm:mget τ m with
  | row t' xs =>
   rw[hm] at h2 hB;obtain ⟨b1,_⟩:=hB;exact slc _ _ _ (eb9 h1) (k2.trans rfl) (by rw[<- b1]; exact (oi9 h2).symm)
  | frz t' xs =>
   rw[hm] at h2;have hx2:=frz_rv hI hm hx;obtain ⟨ad,cap,e1,_⟩:=hx2.2 rfl;exact slc ad _ cap (eb9 h1) (List.cons.inj e1).1 (oi9 h2).symm
  | _=>rw[hm] at h2; cases h2
 | vw τ lo q sz =>
  obtain ⟨h1,h2⟩:=Y2j hn;obtain ⟨k1,v,k2,k3,ad,k4,_⟩:=hx.2 rfl;exact slc ad q _ (eb9 h1) ((List.cons.inj k2).1.trans k4) (oi9 h2).symm
 | va τ p q sz =>
  obtain ⟨h1,h2⟩:=Y2j hn;obtain ⟨k1,k2,k3⟩:=hx.2 rfl;exact slc _ q _ (eb9 h1) (List.cons.inj k3).1 (oi9 h2).symm
 | mp τ =>
  obtain ⟨h1,h2⟩:=Y2j hn;obtain ⟨k1,k2⟩:=hx.2 rfl;have hB:=hI.ok τ;cases hm:mget τ m with
  | mp kt vt l =>
   rw[hm] at h2 hB;obtain ⟨_,es,b1,b2,_⟩:=hB;obtain ⟨kk,vv,u1,_⟩:=hi.map (eb9 h1);refine fin ?_;have h3:(es.size:Int)=n:=by rw[b2]; exact oi9 h2
   have hgo:(getObj (g.loc τ).blk).run P w=.ok (.map es es.size) w:=by simp[getObj,Sem.run,b1]
   simp[Builtin.len_,run_underlying u1,(List.cons.inj k2).1,goInt,hgo,h3]
  | _=>rw[hm] at h2; cases h2
 | ptr τ p =>
  obtain ⟨h1,h2⟩:=Y2j hn;obtain ⟨ar,e,u1,u2⟩:=hi.ptra (eb9 h1);refine fin ?_;have h3:(i.alen:Int)=n:=oi9 h2;simp[Builtin.len_,run_underlying u1,run_underlying u2,goInt,h3]
 | _=>obtain ⟨h1,h2⟩:=Y2j hn; exact arr (eb9 h1) (oi9 h2).symm
theorem Y7w {α:Type} (z:α):∀ (l:List α) (j:Nat) (hj:j < l.length),getAt z l j=l[j]
 | [],j,hj=>by simp at hj
 | b :: l,0,hj=>rfl
 | b :: l,j+1,hj=>Y7w z l j (by simpa using hj)
theorem Y94 {t:TypeId} {i:TI} {x ix:Operand} (ho:o.op=.index t x ix) (hi:TIok P t i) (hI:Inv g X m w) {s:List UInt8} {kk:IntKind} {n:Int}
  (hx:RV g w (okB X g m) (.d .str s) (a.eval x)) (hn:RV g w (okB X g m) (.d (.int kk) n) (a.eval ix))
  (h:(bif Nat.beq i.kind 5 then req (inb n (lenS s)) (k (.d (.int .u8) (byteAt s (toN n))) m g.n) else none)=some r):OpR P X o a w g m k kp r:=by
 obtain ⟨hb,h⟩:=Y2j h;obtain ⟨h1,h2⟩:=Yft h;have hin:0 <= n/\n < s.length:=Y8s h1;obtain ⟨ba,e1,e2⟩:=Yji hx;have en:=Y9b hn;refine OpR.value (cv:=.int .u8 (byteAt s (toN n))) ?_ h2 hI (int_mk _ _) (Ext.refl _ _ _);have hlt:n.toNat < ba.data.toList.length:=by rw[e2]; omega
 have hlt2:n.toNat < ba.size:=by rw[Yi3]; exact hlt
 have hg:ba[n.toNat]?=some (ba[n.toNat]'hlt2):=getElem?_pos ba _ hlt2
 have hb2:byteAt s (toN n)=((ba[n.toNat]'hlt2).toNat:Int):=by
  unfold byteAt toN;rw[Y7w 0 s _ (by omega)];have:(ba[n.toNat]'hlt2)=ba.data.toList[n.toNat]:=rfl;rw[this];congr 2;simp only[<- e2]
 unfold execOp;rw[hb2];have hif:(if 0 <= n then ba[n.toNat]? else none)=some (ba[n.toNat]'hlt2):=by rw[if_pos hin.1]; exact hg
 simp only[ho,e1,en,Instr.index,asIntOf,Sem.run_bind,Sem.run_pure,Result.andThen_ok,run_underlying (hi.str (eb9 hb)),hif]
theorem Y91 {t:TypeId} {i:TI} {x ix:Operand} (ho:o.op=.index t x ix) (hi:TIok P t i) (hI:Inv g X m w) {v:AV} {kk:IntKind} {n:Int}
  (hx:RV g w (okB X g m) v (a.eval x)) (hn:RV g w (okB X g m) (.d (.int kk) n) (a.eval ix))
  (h:(bif Nat.beq i.kind 4 && (Nat.beq i.alen i.flds.length && v.isAgg) then Y3e n i.flds 0 fun s=>match v.sel s with
      | some v'=>bif Nat.beq v'.size i.esz && (v'.isAgg == getAt false i.fag 0) then k v' m g.n else none
      | none=>none else none)=some r):OpR P X o a w g m k kp r:=by
 obtain ⟨hb,h⟩:=Y2j h;simp only[ba9] at hb;obtain ⟨j,j1,j2,j3⟩:=Y3f _ _ h;obtain ⟨e,fi,d,u1,u2,u3,u4⟩:=hi.array (.inr (eb9 hb.1));obtain ⟨u7,u8,u5⟩:=u4;obtain ⟨u6,u9⟩:=u5 j j1;have hal:=eb9 hb.2.1;obtain ⟨ds,e1,e2⟩:=hx.1 hb.2.2;cases hs:v.sel (getAt .inn i.flds j) with
 | none=>rw[hs] at j3; cases j3
 | some v' =>
  rw[hs] at j3;obtain ⟨hz,j3⟩:=Y2j j3;rw[ba9] at hz;obtain ⟨c0,c1,c2,q1,q2,q3⟩:=sel_ok hs (u9 0) e2;obtain ⟨cv,p1,p2⟩:=Ye9 (P:=P) (cs:=ds.toArray) u2 u7 u8 (by simpa using q1) q3 ((eb9 hz.1).trans u3.symm) (Y2h hz.2);have en:=Y9b hn;have j2':n=(j:Int):=by omega
  refine OpR.value ?_ j3 hI p2 (Ext.refl _ _ _);unfold execOp;rw[q2,u6] at p1;have hsz:(sizeOf e).run P w=.ok i.esz w:=by simp[sizeOf,typeInfo,u2,u3]
  simp[ho,e1,en,Instr.index,asIntOf,run_underlying u1,j2',hal,j1,hsz,p1]
theorem Y92 {t:TypeId} {i:TI} {x ix:Operand} (ho:o.op=.index t x ix) (hi:TIok P t i) (hI:Inv g X m w) {n':Nat} {e:Ty} {xs:List e.T} {kk:IntKind} {n:Int}
  (hx:RV g w (okB X g m) (.d (.arr n' e) xs) (a.eval x)) (hn:RV g w (okB X g m) (.d (.int kk) n) (a.eval ix))
  (h:(bif Nat.beq i.kind 3 && (Nat.beq n' i.alen && (Nat.beq e.size i.esz && ((AV.d e e.zero).isAgg == getAt false i.fag 0))) then req (inb n n') (k (.d e (getAt e.zero xs (toN n))) m g.n) else none)=some r):OpR P X o a w g m k kp r:=by
 obtain ⟨hb,h⟩:=Y2j h;simp only[ba9] at hb;obtain ⟨hin,h⟩:=Yft h;have hin:=Y8s hin;obtain ⟨el,fi,d,u1,u2,u3,u4⟩:=hi.array (.inl (eb9 hb.1));obtain ⟨u7,u8,_⟩:=u4;have hal:=eb9 hb.2.1;have hes:=eb9 hb.2.2.1;obtain ⟨ds,e1,e2⟩:=hx.1 rfl;obtain ⟨hlen,hrd⟩:(xs:List e.T).length=n'/\RdL (Rd w (okB X g m) e) xs ds:=e2;have hR:=fun x cs h=>Rd_len w (okB X g m) e x cs h
 have en:=Y9b hn;have hlt:n.toNat < xs.length:=by omega
 have hcl:=Yx hR xs ds hrd;have hsp:=(Y13 hR xs ds hrd n.toNat).2;rw[List.drop_eq_getElem_cons hlt] at hsp;obtain ⟨c1,c2,f1,f2,f3⟩:=hsp;have hmul:n.toNat * e.size <= xs.length * e.size:=Nat.mul_le_mul_right _ (by omega);have hc0:(ds.take (n.toNat * e.size)).length=n.toNat * e.size:=by rw[List.length_take,hcl]; omega
 have hag:(AV.d e xs[n.toNat]).isAgg=getAt false i.fag 0:=by
  have h9:=Y2h hb.2.2.2;rw[<- h9];cases e <;> rfl
 obtain ⟨cv,p1,p2⟩:=Ye9 (P:=P) (w:=w) (g:=g) (ok:=okB X g m) (v:=.d e xs[n.toNat]) (cs:=ds.toArray) (c0:=ds.take (n.toNat * e.size)) (c1:=c1) (c2:=c2) u2 u7 u8 (by
  show ds=_;rw[la9,<- f1,List.take_append_drop]) f2 (by show e.size=_; rw[u3]; exact hes) hag
 rw[Y7w e.zero xs (toN n) hlt] at h;refine OpR.value ?_ h hI p2 (Ext.refl _ _ _);unfold execOp;rw[hc0,hes] at p1;have hsz:(sizeOf el).run P w=.ok i.esz w:=by simp[sizeOf,typeInfo,u2,u3]
 have hif:0 <= n/\n < (i.alen:Int):=by omega
 simp[ho,e1,en,Instr.index,asIntOf,run_underlying u1,hif,hsz,p1]
theorem Y93 {t:TypeId} {i:TI} {x ix:Operand} (ho:o.op=.index t x ix) (hi:TIok P t i) (hI:Inv g X m w) (hf:FrOK g w (okB X g m) fr a.tmps)
  (h:(match ev fr x,ev fr ix with
   | .d .str s,.d (.int _) n=>bif Nat.beq i.kind 5 then req (inb n (lenS s)) (k (.d (.int .u8) (byteAt s (toN n))) m g.n) else none
   | .d (.arr n' e) xs,.d (.int _) n=>bif Nat.beq i.kind 3 && (Nat.beq n' i.alen && (Nat.beq e.size i.esz && ((AV.d e e.zero).isAgg == getAt false i.fag 0))) then req (inb n n') (k (.d e (getAt e.zero (xs:List e.T) (toN n))) m g.n) else none
   | v,.d (.int _) n=>bif Nat.beq i.kind 4 && (Nat.beq i.alen i.flds.length && v.isAgg) then Y3e n i.flds 0 fun s=>match v.sel s with
     | some v'=>bif Nat.beq v'.size i.esz && (v'.isAgg == getAt false i.fag 0) then k v' m g.n else none
     | none=>none else none
   | _,_=>none)=some r):OpR P X o a w g m k kp r:=by
 have hx:=ev_ok hf x;have hn:=ev_ok hf ix;generalize ev fr x=v at *;generalize ev fr ix=u at *;split at h
 ·exact Y94 ho hi hI hx hn h
 ·exact Y92 ho hi hI hx hn h
 ·exact Y91 ho hi hI hx hn h
 ·cases h
end
section
variable {P:Program} {C:Ctx} {X:Nat->Prop} {R:Type} {o:Oper} {a:Act} {w:World} {g:G} {m:Mem} {k kp:AV->Mem->Nat->Option R} {r:R} {fr:Fr}
def Y3i:List (Nat × Value)->List Value
 | []=>[]
 | p :: l=>p.2.cells.toList++Y3i l
theorem Y3j {sz:Nat}:∀ (l:List (Nat × Value)),(∀ p ∈ l,p.2.cells.size=sz)->(Y3i l).length=l.length * sz
 | [],_=>by simp[Y3i]
 | p :: l,h=>by
  have:=Y3j l (fun q hq=>h q (by simp[hq]));have h0:=h p (by simp);simp only[Y3i,ln9,Array.length_toList,List.length_cons,this,h0,Nat.add_mul]; omega
theorem Y6m {sz:Nat}:∀ (l:List (Nat × Value)) (j:Nat) (cells:Array Value),(∀ (i:Nat) (p:Nat × Value),l[i]?=some p->p.1=j+i)->(∀ p ∈ l,p.2.cells.size=sz)->(j+l.length) * sz <= cells.size ->
  ∃ c',Instr.fill (fun i=>some (i * sz,sz)) cells l=some c'/\c'.toList=cells.toList.take (j * sz)++Y3i l++cells.toList.drop ((j+l.length) * sz)
 | [],j,cells,_,_,_=>⟨cells,rfl,by simp[Y3i]⟩
 | (i,v) :: l,j,cells,hi,hs,hc=>by
  have h0:i=j:=by simpa using hi 0 _ rfl
  subst h0;have hv:v.cells.size=sz:=hs (i,v) (by simp);have hvl:v.cells.toList.length=sz:=by simpa using hv
  have hle:(i+1) * sz <= (i+(l.length+1)) * sz:=Nat.mul_le_mul_right _ (by omega);rw[Nat.add_mul i 1,Nat.one_mul] at hle;simp only[List.length_cons] at hc;have hfold:=Y7f v.cells.toList cells (i * sz) 0 (by simp only[Array.length_toList]; omega);simp only[Nat.add_zero,Array.length_toList,hv] at hfold;generalize hF:(v.cells.toList.zipIdx 0).foldl (fun cs (p:Value × Nat)=>cs.setIfInBounds (i * sz+p.2) p.1) cells=cells1 at hfold
  have hsz:cells1.size=cells.size:=by
   have:=congrArg List.length hfold;simp only[Array.length_toList,ln9,List.length_take,List.length_drop,hv] at this;omega
  obtain ⟨c',h1,h2⟩:=Y6m l (i+1) cells1 (fun jj p h=>by have:=hi (jj+1) p (by simpa using h); omega) (fun p hp=>hs p (by simp[hp])) (by rw[hsz]; rw[show i+1+l.length=i+(l.length+1) by omega]; exact hc);refine ⟨c',?_,?_⟩
  ·unfold Instr.fill;simp only;rw[if_neg (by simp only[ne_eq,Bool.or_eq_true,decide_eq_true_eq]; omega)];rw[<- h1,<- hF];congr 1;rw[<- Array.foldl_toList,Array.toList_zipIdx]
  ·rw[h2,hfold,Y3i];have e1:(i+1) * sz=i * sz+sz:=by rw[Nat.add_mul,Nat.one_mul]
   have hl1:(cells.toList.take (i * sz)).length=i * sz:=by rw[List.length_take,Array.length_toList]; omega
   have e2:((cells.toList.take (i * sz)++v.cells.toList)++cells.toList.drop (i * sz+sz)).take ((i+1) * sz)=cells.toList.take (i * sz)++v.cells.toList:=by
    rw[List.take_append_of_le_length (by rw[ln9,hl1,hvl]; omega),List.take_of_length_le (by rw[ln9,hl1,hvl]; omega)]
   rw[e2,List.drop_append,List.drop_of_length_le (by rw[ln9,hl1,hvl,Nat.add_mul]; omega),List.nil_append,List.drop_drop,ln9,hl1,hvl]
   rw[show i * sz+sz+((i+1+l.length) * sz - (i * sz+sz))=(i+(l.length+1)) * sz by
    have:i * sz+sz <= (i+1+l.length) * sz:=by rw[show i+1+l.length=i+(l.length+1) by omega]; omega
    rw[show i+(l.length+1)=i+1+l.length by omega]; omega]
   simp
theorem Yg9 {ok:Nat->Prop} {t:Ty} (hf:∀ τ,BOK g w ok τ (mget τ m)):∀ (l:List (Nat × AV)) (vs:List (Nat × Value)),l.length=vs.length->(∀ (j:Nat) (x:Nat × AV) (v:Nat × Value),l[j]?=some x->vs[j]?=some v->x.1=v.1/\RV g w ok x.2 v.2) ->
  ∀ (j:Nat) (xs:List t.T),rowOf m t l j=some xs->xs.length=l.length/\(∀ (i:Nat) (p:Nat × Value),vs[i]?=some p->p.1=j+i)/\(∀ p ∈ vs,p.2.cells.size=t.size)/\RdL (Rd w ok t) xs (Y3i vs)
 | [],[],_,_,j,xs,h=>by
  simp only[rowOf] at h; cases h;exact ⟨rfl,by simp,by simp,rfl⟩
 | (i,v) :: l,(i',u) :: vs,hl,he,j,xs,h=>by
  obtain ⟨e1,e2⟩:=he 0 _ _ rfl rfl;simp only at e1 e2;subst e1;simp only[rowOf] at h;obtain ⟨hb,h⟩:=Y2j h;rw[ba9] at hb;have hij:=eb9 hb.1;subst hij;split at h
  ·rename_i x hx;split at h
   ·rename_i ys hys;cases h;obtain ⟨k1,k2,k3,k4⟩:=Yg9 hf l vs (by simpa using hl) (fun jj y v h1 h2=>he (jj+1) y v (by simpa using h1) (by simpa using h2)) (i+1) ys hys;have hd:=Y56 hf v t x hx _ (Yo hb.2 e2);have hz:u.cells.size=t.size:=by have:=Rd_len w ok t x _ hd; simpa using this
    refine ⟨by simp[k1],fun jj p hp=>?_,fun p hp=>?_,⟨_,_,rfl,hd,k4⟩⟩
    ·cases jj with
     | zero=>simp at hp; subst hp; rfl
     | succ jj=>have:=k2 jj p (by simpa using hp); omega
    ·rcases List.mem_cons.1 hp with rfl | hp
     ·exact hz
     ·exact k3 p hp
   ·cases h
  ·cases h
 | [],_ :: _,hl,_,_,_,_=>by simp at hl
 | _ :: _,[],hl,_,_,_,_=>by simp at hl
theorem Yco {m0:Mem} {t:Ty} {xs:List t.T} {cells:Array Value} {e:TypeId} {cap:Nat} {w1:World} (hI:Inv g X m w1) {cs:List Value} (hr:RdL (Rd w1 (okB X g m) t) xs cs) (hc:∀ (j:Nat) (v:Value),cs[j]?=some v->cells[j]?=some v) (hle:xs.length <= cap)
  (hsz:cap * t.size <= cells.size) (hx0:Ext g m0 w g m w1)
  (hrun:(execOp a.eval o).run P w=.ok (.value (.slice (some ⟨w1.heap.size,0,none⟩) xs.length cap)) (w1.alloc (.cells cells e))) (h:k (.sl g.n) ((g.n,.row t xs) :: m) (g.n+1)=some r):OpR P X o a w g m0 k kp r:=by
 have hx:=Ext.alloc hI (.cells cells e) (.row t xs) ⟨w1.heap.size,0,xs.length,cap,false⟩ rfl;refine OpR.value (g':=g.new ⟨w1.heap.size,0,xs.length,cap,false⟩) hrun h (hI.alloc _ _ _ rfl ?_) ?_ (hx0.trans hx)
 ·refine ⟨by rw[g.new_self],by rw[g.new_self]; exact hle,.inr ⟨by rw[g.new_self],cells,e,cs,?_,Yz (fun x cs=>Y17 hx.holds t x cs) _ _ hr,?_,?_⟩⟩
  ·rw[g.new_self]; exact heap_alloc_new w1 _
  ·rw[g.new_self]; simpa using hc
  ·rw[g.new_self]; simpa using hsz
 ·refine RV_one rfl ⟨.inr rfl,?_⟩;rw[g.new_self]; rfl
theorem Y2y {t:TypeId} {i:TI} {n:Nat} {parts:Array (Nat × Operand)} (ho:o.op=.buildSlice t n parts) (hi:TIok P t i) (hI:Inv g X m w) (hf:FrOK g w (okB X g m) fr a.tmps) {xs:List i.ety.T}
  (hrow:rowOf (frzL (toksL (parts.toList.map fun p=>ev fr p.2)) m) i.ety (parts.toList.map fun p=>(p.1,ev fr p.2)) 0=some xs)
  (hb:(Nat.beq i.kind 2 && (Nat.beq n xs.length && Nat.ble (n * i.ety.size) 16777216))=true)
  (h:k (.sl g.n) ((g.n,.row i.ety xs) :: frzL (toksL (parts.toList.map fun p=>ev fr p.2)) m) (g.n+1)=some r):OpR P X o a w g m k kp r:=by
 simp only[ba9] at hb;obtain ⟨e,fi,ez,k1,k2,k3,k4,k5,k6,k7,k8⟩:=hi.slice (eb9 hb.1);have hn:=eb9 hb.2.1;have hlim:=Nat.le_of_ble_eq_true hb.2.2;generalize htk:toksL (parts.toList.map fun p=>ev fr p.2)=tk at *;obtain ⟨hI1,hx1⟩:=Inv.frzL tk hI;have hf1:=FrOK.mono hx1.gx (hx1.holds (X:=X)) hf
 obtain ⟨q1,q2,q3,q4⟩:=Yg9 (g:=g) (w:=w) (ok:=okB X g (frzL tk m)) (fun τ=>hI1.ok τ) (parts.toList.map fun p=>(p.1,ev fr p.2)) (parts.toList.map fun p=>(p.1,a.eval p.2)) (by simp)
  (fun j x v e1 e2=>by
   simp only[List.getElem?_map] at e1 e2;cases hp:parts.toList[j]? with
   | none=>rw[hp] at e1; cases e1
   | some p=>rw[hp] at e1 e2; cases e1; cases e2; exact ⟨rfl,ev_ok hf1 p.2⟩) 0 xs hrow
 have hlen:(parts.toList.map fun p=>(p.1,a.eval p.2)).length=n:=by rw[hn,q1]; simp
 have hz:ez.cells.size=i.ety.size:=by have:=Rd_len w (fun _=>True) _ _ _ (k6 w (fun _=>True)); simpa using this
 obtain ⟨c',p1,p2⟩:=Y6m (sz:=i.ety.size) (parts.toList.map fun p=>(p.1,a.eval p.2)) 0 ((Array.range (n * i.ety.size)).map fun x=>ez.cells[x % ez.cells.size]!) q2 q3 (by rw[Nat.zero_add,hlen]; simp);have hlst:=Y3j _ q3;rw[hlen] at hlst;simp only[Nat.zero_mul,List.take_zero,List.nil_append,Nat.zero_add,hlen] at p2;rw[List.drop_of_length_le (by simp),List.append_nil] at p2;refine Yco (cells:=c') (e:=e) (cap:=n) (cs:=Y3i (parts.toList.map fun p=>(p.1,a.eval p.2))) hI1 q4 (fun j v hv=>?_) (by omega) ?_ hx1 ?_ h
 ·rw[<- p2] at hv; simpa using hv
 ·have:=congrArg List.length p2; simp only[Array.length_toList] at this; omega
 ·have hsz:(sizeOf e).run P w=.ok i.ety.size w:=by simp[sizeOf,typeInfo,k2,k3]
  have hzv:n * i.ety.size ≠ 0->(zeroValue e).run P w=.ok ez w:=fun _=>by simp[zeroValue,typeInfo,k2,k5]
  have hnl:¬ (16777216 < n * i.ety.size):=by omega
  unfold execOp;rw[<- hn];by_cases h0:n * i.ety.size=0
  ·have hn0:n=0:=by rcases Nat.mul_eq_zero.1 h0 with h | h <;> omega
   have hp0:parts=#[]:=by
    have:parts.toList.length=0:=by simpa[hn0] using hlen
    apply Array.toList_inj.1; exact List.length_eq_zero_iff.1 this
   subst hp0 hn0
   have hc0:c'=#[]:=by
    apply Array.toList_inj.1; rw[p2]; rfl
   subst hc0;simp[ho,Instr.buildSlice,run_underlying k1,hsz,Instr.fill,newRow];have hr0:Array.range 0=#[]:=by apply Array.toList_inj.1; simp
   rw[hr0]; simp
  ·have hmp:(parts.map fun p=>(p.1,a.eval p.2)).toList=parts.toList.map fun p=>(p.1,a.eval p.2):=by simp
   have e0:(zeroValue e).run P w=.ok ez w:=hzv h0;have hfill:Instr.fill (fun i_1=>some (i_1 * i.ety.size,i.ety.size)) ((Array.range (n * i.ety.size)).map fun x=>ez.cells[x % ez.cells.size]!) (List.map (fun p=>(p.1,a.eval p.2)) parts.toList)=some c':=p1;simp only[ho,Instr.buildSlice,Sem.run_bind,run_underlying k1,Result.andThen_ok,hsz,if_neg h0,e0,Sem.run_pure,hmp,gt_iff_lt];rw[if_neg (by simpa using hnl)];simp[e0,hfill,newRow]
end
end Go.Proofs.YtifbgkikkiallaaGreat.VX

