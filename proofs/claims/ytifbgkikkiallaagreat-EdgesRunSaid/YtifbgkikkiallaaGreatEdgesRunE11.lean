import Derived.Test.YtifbgkikkiallaaGreatEdgesRunE10
import Derived.RangeFuncLeaves
set_option linter.unusedVariables false
set_option linter.unusedSimpArgs false
namespace Go.Proofs.YtifbgkikkiallaaGreat.VX
theorem Y16 {w w':World} {ok ok':Nat->Prop}:∀ (t:Ty) (x:t.T) (cs:List Value),t.hasSlice=false->Rd w ok t x cs->Rd w' ok' t x cs
 | .int k,n,cs,_,h1=>h1
 | .bool,b,cs,_,h1=>h1
 | .str,s,cs,_,h1=>h1
 | .pair a b,x,cs,hs,⟨c1,c2,e,h1,h2⟩=>by
  simp only[Ty.hasSlice,Bool.or_eq_false_iff] at hs;exact ⟨c1,c2,e,Y16 a _ _ hs.1 h1,Y16 b _ _ hs.2 h2⟩
 | .one a,x,cs,hs,h1=>Y16 a x cs hs h1
 | .slice t,l,cs,hs,_=>by cases hs
 | .arr n t,l,cs,hs,⟨hl,h1⟩=>⟨hl,Yz (fun x cs=>Y16 t x cs hs) _ _ h1⟩
theorem Ys {g g':G} {w w':World} {ok ok':Nat->Prop} {t:Ty} {x:t.T} {cv:Value} (hs:t.hasSlice=false) (h:RV g w ok (.d t x) cv):RV g' w' ok' (.d t x) cv :=
 ⟨fun e=>let ⟨ds,e1,e2⟩:=h.1 e; ⟨ds,e1,Y16 t x ds hs e2⟩,fun e=>Y16 t x _ hs (h.2 e)⟩
theorem Yq {g g':G} {w:World} {ok:Nat->Prop} {t:Ty} {x:t.T} {cv:Value} (h:RV g w ok (.d t x) cv):RV g' w ok (.d t x) cv :=
 ⟨fun e=>let ⟨ds,e1,e2⟩:=h.1 e; ⟨ds,e1,e2⟩,fun e=>h.2 e⟩
def Y4 (w:World) (ok:Nat->Prop):(ts:List Ty)->HL ts->List Value->Prop
 | [],_,vs=>vs=[]
 | [t],x,vs=>∃ v,vs=[v]/\∀ g,RV g w ok (.d t x) v
 | t :: u :: l,x,vs=>∃ v vs',vs=v :: vs'/\(∀ g,RV g w ok (.d t x.1) v)/\Y4 w ok (u :: l) x.2 vs'
theorem Yjy {m:Mem} {t u:Ty} {l:List Ty} {v:AV} {vs:List AV} {x:t.T × HL (u :: l)} (h:toHL m (t :: u :: l) (v :: vs)=some x):∃ y z,v.data m t=some y/\toHL m (u :: l) vs=some z/\x=(y,z):=by
 have h':(match v.data m t,toHL m (u :: l) vs with | some x,some y=>some (x,y) | _,_=>none)=some x:=h;split at h'
 ·rename_i y z h1 h2; exact ⟨y,z,h1,h2,(oi9 h').symm⟩
 ·cases h'
theorem Yjz {g:G} {w:World} {ok:Nat->Prop} {m:Mem} (hf:∀ τ,BOK g w ok τ (mget τ m)):∀ (ts:List Ty) (args:List AV) (vs:List Value) (x:HL ts),toHL m ts args=some x->ArgsOK g w ok args vs->Y4 w ok ts x vs
 | [],[],[],x,h,_=>rfl
 | [t],[v],[cv],x,h,⟨h1,_⟩=>⟨cv,rfl,fun g'=>Yq (Y58 hf h (Y53 h) h1)⟩
 | t :: u :: l,v :: vs,cv :: cvs,x,h,⟨h1,h2⟩=>by
  obtain ⟨y,z,hy,hz,rfl⟩:=Yjy h;exact ⟨cv,cvs,rfl,fun g'=>Yq (Y58 hf hy (Y53 hy) h1),Yjz hf (u :: l) vs cvs z hz h2⟩
 | [],_ :: _,_,x,h,_=>by cases h
 | [t],[],_,x,h,_=>by cases h
 | [t],_ :: _ :: _,_,x,h,_=>by cases h
 | t :: u :: l,[],_,x,h,_=>by cases h
 | [],[],_ :: _,x,h,h2=>h2.elim
 | [t],[v],[],x,h,h2=>h2.elim
 | [t],[v],_ :: _ :: _,x,h,⟨_,h2⟩=>h2.elim
 | t :: u :: l,v :: vs,[],x,h,h2=>h2.elim
theorem Y4.args {w:World} {ok:Nat->Prop} (g:G):∀ (ts:List Ty) (x:HL ts) (vs:List Value),Y4 w ok ts x vs->ArgsOK g w ok (ofHL ts x) vs
 | [],x,vs,h=>by cases h; trivial
 | [t],x,vs,⟨v,e,h⟩=>by subst e; exact ⟨h g,trivial⟩
 | t :: u :: l,x,vs,⟨v,vs',e,h1,h2⟩=>by subst e; exact ⟨h1 g,Y4.args g (u :: l) x.2 vs' h2⟩
theorem Y4.length {w:World} {ok:Nat->Prop}:∀ (ts:List Ty) (x:HL ts) (vs:List Value),Y4 w ok ts x vs->vs.length=ts.length
 | [],x,vs,h=>by cases h; rfl
 | [t],x,vs,⟨v,e,h⟩=>by subst e; rfl
 | t :: u :: l,x,vs,⟨v,vs',e,h1,h2⟩=>by subst e; simp[Y4.length (u :: l) x.2 vs' h2]
theorem Y4.mono {w w':World} {ok ok':Nat->Prop} (hh:Holds w ok w' ok'):∀ (ts:List Ty) (x:HL ts) (vs:List Value),Y4 w ok ts x vs->Y4 w' ok' ts x vs
 | [],x,vs,h=>h
 | [t],x,vs,⟨v,e,h⟩=>⟨v,e,fun g=>Yt (GExt.refl g) hh (h g)⟩
 | t :: u :: l,x,vs,⟨v,vs',e,h1,h2⟩=>⟨v,vs',e,fun g=>Yt (GExt.refl g) hh (h1 g),Y4.mono hh (u :: l) x.2 vs' h2⟩
theorem Y4.free {w w':World} {ok ok':Nat->Prop}:∀ (ts:List Ty) (x:HL ts) (vs:List Value),hasSl ts=false->Y4 w ok ts x vs->Y4 w' ok' ts x vs
 | [],x,vs,_,h=>h
 | [t],x,vs,hs,⟨v,e,h⟩=>by
  simp only[hasSl,Bool.or_false] at hs;exact ⟨v,e,fun g=>Ys hs (h g)⟩
 | t :: u :: l,x,vs,hs,⟨v,vs',e,h1,h2⟩=>by
  rw[hasSl,Bool.or_eq_false_iff] at hs;exact ⟨v,vs',e,fun g=>Ys hs.1 (h1 g),Y4.free (u :: l) x.2 vs' hs.2 h2⟩
theorem Ym {g:G} {w:World} {ok:Nat->Prop}:∀ (l:List AV) (vs:List Value),ArgsOK g w ok l vs->RL g w ok (avList l) vs
 | [],[],_=>rfl
 | a :: l,v :: vs,⟨h1,h2⟩=>⟨v,vs,rfl,h1,Ym l vs h2⟩
 | [],_ :: _,h=>h.elim
 | _ :: _,[],h=>h.elim
def resVal:List Value->Value
 | [v]=>v
 | vs=>.tuple vs.toArray
theorem Yfu {g:G} {w:World} {ok:Nat->Prop} (rs:List Ty) (x:HL rs) (vs:List Value) (h:Y4 w ok rs x vs):RV g w ok (resAV rs x) (resVal vs):=by
 have ha:=h.args g
 match rs,x,h,ha with
 | [],x,h,ha=>cases h; exact ⟨fun e=>(by cases e),fun _=>⟨[],rfl,rfl⟩⟩
 | [t],x,h,ha=>obtain ⟨v,e,h3⟩:=h; subst e; exact h3 g
 | t :: u :: l,x,h,ha =>
  obtain ⟨v,vs',e,h1,h2⟩:=h;subst e
  have hne:∃ v2 vs2,vs'=v2 :: vs2:=by
   cases l with
   | nil=>obtain ⟨v2,e2,_⟩:=h2; exact ⟨v2,[],e2⟩
   | cons u2 l2=>obtain ⟨v2,vs2,e2,_⟩:=h2; exact ⟨v2,vs2,e2⟩
  obtain ⟨v2,vs2,rfl⟩:=hne;refine ⟨fun e=>(by cases e),fun _=>⟨v :: v2 :: vs2,Ym _ _ ha,rfl⟩⟩
def initFr:Nat->List AV->Fr
 | _,[]=>[]
 | n,a :: l=>(n,a) :: initFr (n+1) l
theorem Y95 {g:G} {w:World} {ok:Nat->Prop}:∀ (l:List AV) (vs:List Value) (n:Nat) (tmps:Array Value),ArgsOK g w ok l vs->(∀ i v,vs[i]?=some v->tmps.getD (n+i) undef=v)->FrOK g w ok (initFr n l) tmps
 | [],[],n,tmps,_,_=>fun t=>Yr _ _ _ _
 | a :: l,v :: vs,n,tmps,⟨h1,h2⟩,h=>by
  intro t;show RV g w ok (fget t ((n,a) :: initFr (n+1) l)) _;rw[Y6i];split
  ·rename_i e; subst e;have:=h 0 v rfl;rw[Nat.add_zero] at this;rw[this]; exact h1
  ·exact Y95 l vs (n+1) tmps h2 (fun i u hu=>by have:=h (i+1) u (by simpa using hu); rw[<- this]; congr 1; omega) t
 | [],_ :: _,_,_,h,_=>h.elim
 | _ :: _,[],_,_,h,_=>h.elim
def Yfw (C:Ctx) (fr:Fr) (m:Mem):List ResultVar->Option (List AV)
 | []=>some []
 | .tmp t :: l=>match Yfw C fr m l with
  | some vs=>some (fget t fr :: vs)
  | none=>none
 | .cell a t :: l=>match tget t C.tb with
  | some i=>match loadA m some (fget a fr) with
   | some v=>bif Nat.beq v.size i.size && (v.isAgg == i.agg) then match Yfw C fr m l with
    | some vs=>some (v :: vs)
    | none=>none else none
   | none=>none
  | none=>none
def retK (C:Ctx) (rv:List ResultVar) (rs:List Ty):Ex->Fr->Mem->Nat->Option (HL rs)
 | .normal,fr,m,_=>match Yfw C fr m rv with
  | some l=>toHL (frzL (toksL l) m) rs l
  | none=>none
 | .ret,fr,m,_=>match Yfw C fr m rv with
  | some l=>toHL (frzL (toksL l) m) rs l
  | none=>none
 | _,_,_,_=>none
section
variable {P:Program} {C:Ctx}
theorem Ya9 {g:G} {X:Nat->Prop} {m:Mem} {w:World} (hI:Inv g X m w) {x:AV} {cv:Value} (hx:RV g w (okB X g m) x cv) {v:AV} (h:loadA m some x=some v) :
  ∃ b off cs,cv=.pointer (some ⟨b,off,none⟩)/\RC g w (okB X g m) v cs/\∀ j u,cs[j]?=some u->w.cell? ⟨b,off+j,none⟩=some u:=by
 cases x with
 | ptr τ p =>
  obtain ⟨h1,h2,h3⟩:=Yet hx;simp only[loadA] at h;have hB:=hI.ok τ;cases hm:mget τ m with
  | var y =>
   rw[hm] at h hB;simp only at h;obtain ⟨hb0,hs,hnn,c,e,hh,hv⟩:=hB;cases hgv:y.get p with
   | none=>rw[hgv] at h; cases h
   | some z =>
    rw[hgv] at h; cases h;obtain ⟨c0,c1,c2,e1,e2,e3⟩:=get_ok p y _ hgv h2 _ hv;refine ⟨_,_,c1,h3,e3,fun j u hu=>?_⟩;simp only[World.cell?,hh,hb0,Nat.zero_add]
    have:c.toList[Path.off p+j]?=some u:=by
     rw[e1,<- e2,la9,List.getElem?_append_right (by omega),Nat.add_sub_cancel_left,List.getElem?_append_left (by have:=(List.getElem?_eq_some_iff.1 hu).1; exact this)];exact hu
    simpa using this
  | row t' xs =>
   rw[hm] at h hB;simp only at h;cases p with
   | nil=>cases h
   | cons s q =>
    cases s with
    | row j sz =>
     simp only at h;obtain ⟨hb,h'⟩:=Y2j h;clear h;have hsz:=eb9 hb;subst hsz;cases hgv:(AV.d t' (getAt t'.zero xs j)).get q with
     | none=>rw[hgv] at h'; cases h'
     | some y =>
      rw[hgv] at h'; cases h';obtain ⟨b1,b2,b0⟩:=hB;have hj:j < xs.length:=by rw[b1]; exact h2 (.row j t'.size) (by simp)
      obtain ⟨b7,c,e,cells,b3,b4,b5,b6⟩:=b0.resolve_left (fun h=>by omega);have hR:=fun x cs h=>Rd_len w (okB X g m) t' x cs h
      have hat:=RdL_at hR xs cells b4 j t'.zero hj;obtain ⟨c0,c1,c2,e1,e2,e3⟩:=get_ok (g:=g) (n:=(g.loc τ).len) q (.d t' (getAt t'.zero xs j)) _ hgv (fun s hs=>h2 s (by simp[hs])) _ hat;refine ⟨_,_,c1,h3,e3,fun jj u hu=>?_⟩;have hjl:jj < c1.length:=(List.getElem?_eq_some_iff.1 hu).1
      have k1:cells[j * t'.size+(Path.off q+jj)]?=some u:=by
       have k2:((cells.drop (j * t'.size)).take t'.size)[Path.off q+jj]?=some u:=by
        rw[e1,<- e2,la9,List.getElem?_append_right (by omega),Nat.add_sub_cancel_left,List.getElem?_append_left hjl];exact hu
       rw[List.getElem?_take] at k2;split at k2
       ·rw[List.getElem?_drop] at k2; exact k2
       ·cases k2
      have k3:=b5 _ _ k1;simp only[World.cell?,b3];simp only[Path.off,Sel.off];rw[show (g.loc τ).base+(j * t'.size+Path.off q)+jj=(g.loc τ).base+(j * t'.size+(Path.off q+jj)) by omega];simpa using k3
    | _=>cases h
  | _=>rw[hm] at h; cases h
 | pv t' y =>
  cases h;obtain ⟨ad,cells,e1,e2,e3⟩:=hx.2 rfl;obtain ⟨b,off,rfl,hc⟩:=Yhb e3;exact ⟨b,off,cells,(List.cons.inj e1).1,e2,hc⟩
 | _=>cases h
def Yfv (tmps:Array Value) (x:ResultVar):Sem Value :=
 match x with
 | .tmp t=>Pure.pure (tmps.getD t undef)
 | .cell a t=>do loadVar t (<- asAddr (tmps.getD a undef))
theorem Yfx {g:G} {X:Nat->Prop} {m:Mem} {w:World} (hC:CtxOK P C) (hI:Inv g X m w) {fr:Fr} {tmps:Array Value} (hf:FrOK g w (okB X g m) fr tmps):∀ (rv:List ResultVar) (l:List AV),Yfw C fr m rv=some l ->
  ∃ vs,(rv.mapM (Yfv tmps)).run P w=.ok vs w/\ArgsOK g w (okB X g m) l vs
 | [],l,h=>by cases h; exact ⟨[],by simp,trivial⟩
 | .tmp t :: rv,l,h=>by
  simp only[Yfw] at h;split at h
  ·rename_i vs hvs;cases h;obtain ⟨us,h1,h2⟩:=Yfx hC hI hf rv vs hvs;exact ⟨tmps.getD t undef :: us,by rw[List.mapM_cons]; simp only[Yfv,Sem.run_bind,Sem.run_pure,Result.andThen_ok,h1],hf t,h2⟩
  ·cases h
 | .cell ad t :: rv,l,h=>by
  simp only[Yfw] at h;split at h
  ·rename_i i hi;split at h
   ·rename_i v hv;obtain ⟨hb,h'⟩:=Y2j h;clear h;rw[ba9] at hb;split at h'
    ·rename_i vs hvs;cases h';obtain ⟨us,h1,h2⟩:=Yfx hC hI hf rv vs hvs;obtain ⟨b,off,cs,e1,e2,e3⟩:=Ya9 hI (hf ad) hv;have hag:=Y2h hb.2;obtain ⟨cv,k1,k2,k3⟩:=Yh1 (hC.tb _ _ hi) w b off cs (by rw[RC_len v cs e2]; exact eb9 hb.1) (Ya7 hag e2) e3;refine ⟨cv :: us,?_,Yu hag k2 k3 e2,h2⟩;rw[List.mapM_cons];have hst:(Yfv tmps (.cell ad t)).run P w=.ok cv w:=by simp only[Yfv,Sem.run_bind,Sem.run_pure,Result.andThen_ok,e1,asAddr,k1]
     simp only[Sem.run_bind,Sem.run_pure,Result.andThen_ok,h1,hst]
    ·cases h'
   ·cases h
  ·cases h
theorem Yh2 {fn:Func} {tmps:Array Value} {w:World} {vs:List Value} (h:(fn.results.toList.mapM (Yfv tmps)).run P w=.ok vs w):(results fn tmps).run P w=.ok (resVal vs) w:=by
 have e:results fn tmps=(do let vs <- fn.results.mapM (Yfv tmps); Pure.pure (if h:vs.size=1 then vs[0] else .tuple vs)):=rfl;rw[e,Array.mapM_eq_mapM_toList];simp only[Sem.run_bind,Sem.run_map,h,Result.andThen_ok,Sem.run_pure]
 match vs with
 | []=>rfl
 | [v]=>rfl
 | v :: u :: l=>simp[resVal]
structure DSame (b0:Nat) (w w':World):Prop where
 size:w'.heap.size=w.heap.size
 old:∀ b:Nat,b < b0->w'.heap[b]?=w.heap[b]?
 same:∀ b:Nat,w.heap[b]? ≠ some (Obj.deferred (some []))->w'.heap[b]?=w.heap[b]?
 os:w'.os=w.os
 tape:w'.tape=w.tape
 output:w'.output=w.output
theorem DSame.refl (b0:Nat) (w:World):DSame b0 w w:=⟨rfl,fun _ _=>rfl,fun _ _=>rfl,rfl,rfl,rfl⟩
theorem DSame.put {b0:Nat} {w:World} {D:Nat} (h1:b0 <= D) (h2:w.heap[D]?=some (.deferred (some []))):DSame b0 w (w.putObj D (.deferred none)) :=
 ⟨World.putObj_size,fun b hb=>World.putObj_heap_other (by omega),fun b hb=>World.putObj_heap_other (fun e=>hb (e ▸ h2)),rfl,rfl,rfl⟩
theorem DSame.then {b0:Nat} {w w':World} (h:DSame b0 w w') {D:Nat} (h1:b0 <= D) (h2:w'.heap[D]?=some (.deferred (some []))) (h3:w.heap[D]?=some (.deferred (some []))):DSame b0 w (w'.putObj D (.deferred none)) :=
 ⟨World.putObj_size.trans h.size,fun b hb=>(World.putObj_heap_other (by omega)).trans (h.old b hb),fun b hb=>(World.putObj_heap_other (fun e=>hb (by rw[e]; exact h3))).trans (h.same b hb),h.os,h.tape,h.output⟩
theorem DSame.holds {b0:Nat} {w w':World} (h:DSame b0 w w') (ok:Nat->Prop):Holds w ok w' ok:=fun b hb ⟨_,_,_,h1⟩=>⟨hb,h.same b (by rw[h1]; intro e; cases e)⟩
theorem DSame.inv {b0:Nat} {w w':World} (h:DSame b0 w w') {g:G} {X:Nat->Prop} {m:Mem} (hI:Inv g X m w):Inv g X m w':=by
 refine ⟨fun τ=>?_,hI.inj,hI.far,fun b hb=>by rw[h.size]; exact hI.xlt b hb,hI.fresh,hI.dlt,fun τ i k=>by rw[h.size]; exact hI.sb τ i k⟩;by_cases hd:g.dom τ
 ·refine Y1 (GExt.refl g) (h.holds _) hd (fun h1 h2=>h.same _ (fun e=>?_)) (fun i h1=>⟨rfl,fun h2=>h.same _ (fun e=>?_)⟩) (hI.ok τ)
  case refine_2 =>
   obtain ⟨c,e',h3⟩:=hI.sb_cells ⟨h1,h2⟩;rw[e] at h3; cases h3
  have hB:=hI.ok τ;generalize mget τ m=B at *;cases B with
  | var v=>obtain ⟨_,_,_,c,e',h3,_⟩:=hB; rw[e] at h3; cases h3
  | row t xs =>
   obtain ⟨_,_,h0⟩:=hB;rcases h0 with ⟨h0,_⟩ | ⟨_,c,e',cells,h3,_⟩
   ·rw[h2] at h0; cases h0
   ·rw[e] at h3; cases h3
  | mp kt vt l=>obtain ⟨_,es,h3,_⟩:=hB; rw[e] at h3; cases h3
  | lp id sl sv tag=>obtain ⟨_,rt,fn,tmps,D,st,pe,vs,_,h3,_⟩:=hB; rw[e] at h3; cases h3
  | fm ks vs=>obtain ⟨_,es,cvs,h3,_⟩:=hB; rw[e] at h3; cases h3
  | mo kt t l hh=>obtain ⟨_,es,h3,_⟩:=hB; rw[e] at h3; cases h3
  | _=>cases h1
 ·rw[hI.fresh τ hd]; trivial
theorem DSame.ext {b0:Nat} {w0 w w':World} (h:DSame b0 w w') (hb:w0.heap.size <= b0) {p:Nat} {g g':G} {m m':Mem} (hx:Ext0 p g m w0 g' m' w):Ext0 p g m w0 g' m' w' :=
 ⟨hx.rt,hx.pin,by rw[h.size]; exact hx.size,fun b h1 h2=>(h.old b (by omega)).trans (hx.keep b h1 h2),hx.own,h.os.trans hx.os,h.tape.trans hx.tape,h.output.trans hx.output⟩
theorem Ya5 {P:Program} {fn:Func} {tmps:Array Value} {R:Ending->World->Prop} {b0:Nat} {ok:Nat->Prop} {u:FrameMode} (hu:u ≠ .run) {w:World}:∀ (ds:List Deferred) (w1:World),DfOK b0 w1 ok ds->DSame b0 w w1 ->
  (∀ d ∈ ds,∀ D,d.target=.collected D->w.heap[D]?=some (.deferred (some []))) ->
  (∀ w2,DSame b0 w w2->LeavesIn Fence.wide 0 P fn tmps R [] u w2)->LeavesInM Fence.wide 0 P fn tmps R ds u w1
 | [],w1,_,h2,_,h3=>h3 w1 h2
 | d :: ds,w1,⟨⟨D,k1,k2,k3,k4,k5⟩,h1⟩,h2,h4,h3=>by
  subst k1;refine ⟨hu,.inl ⟨D,_,rfl,run_takeDeferred k4,?_⟩⟩;refine Ya5 hu ds _ (DfOK_put ds h1 k5) (h2.then k2 k4 (h4 _ (List.mem_cons_self ..) D rfl)) (fun d hd=>h4 d (List.mem_cons_of_mem _ hd)) h3
where
 DfOK_put {b0:Nat} {w1:World} {ok:Nat->Prop} {D:Nat}:∀ (ds:List Deferred),DfOK b0 w1 ok ds->(∀ d' ∈ ds,d'.target ≠ .collected D)->DfOK b0 (w1.putObj D (.deferred none)) ok ds
 | [],_,_=>trivial
 | d :: ds,⟨⟨D',k1,k2,k3,k4,k5⟩,h1⟩,h=>by
  refine ⟨⟨D',k1,k2,k3,?_,k5⟩,DfOK_put ds h1 (fun d' hd=>h d' (List.mem_cons_of_mem _ hd))⟩;rw[World.putObj_heap_other (fun e=>h d (List.mem_cons_self ..) (by rw[k1,e]))];exact k4
theorem DfOK.at {b0:Nat} {w:World} {ok:Nat->Prop}:∀ {ds:List Deferred},DfOK b0 w ok ds->∀ d ∈ ds,∀ D,d.target=.collected D->w.heap[D]?=some (.deferred (some []))
 | d :: ds,⟨⟨D,k1,k2,k3,k4,k5⟩,h1⟩,d',hd,D',e=>by
  rcases List.mem_cons.1 hd with h | h
  ·subst h; rw[k1] at e; cases e; exact k4
  ·exact h1.at d' h D' e
theorem Spec.pure_uni (ts rs:List Ty) (F:HL ts->Option (HL rs)):(Spec.pure ts rs F).Uni:=by
 intro args m N R k kp r h;left;simp only[Spec.pure] at h ⊢;split at h
 ·rename_i x hx;cases hF:F x with
  | none=>rw[hF] at h; cases h
  | some y =>
   obtain ⟨δ,hδ⟩:=Y7p (toksL args) m;cases hs:hasSl rs with
   | true=>exact ⟨resAV rs y,δ,N,fun k' kp'=>by simp only[Option.bind_some,cond_true,hδ]⟩
   | false=>exact ⟨resAV rs y,[],N,fun k' kp'=>by simp only[Option.bind_some,cond_false]; rfl⟩
 ·cases h
theorem Sound.pure {f:FuncId} {fn:Func} {c:Code} (hf:P.funcs[f]?=some fn) (hb:fn.body=some c) (hn:fn.name ≠ "runtime.NumGoroutine") (hC:CtxOK P C) (hS:SumOK P C c) (hnt:fn.ntmps=C.nt) (hpin:C.pin=0)
  (ts rs:List Ty) (hts:ts.length <= C.nt) (F:HL ts->Option (HL rs)) (heq:∀ x,exec C c (initFr 0 (ofHL ts x)) [] 0 (retK C fn.results.toList rs)=F x):Sound P f (Spec.pure ts rs F):=by
 refine ⟨Spec.pure_uni ts rs F,⟨fn,hf,by rw[hb]; rfl,hn⟩,?_⟩;intro R args m g k kp r X w vs hrun hI hrt hargs;simp only[Spec.pure] at hrun;obtain ⟨hI1,hx1⟩:=Inv.frzL (toksL args) hI;generalize hm1:frzL (toksL args) m=m1 at *;split at hrun
 ·rename_i x hx;have hd:=Yjz (g:=g) (w:=w) (ok:=okB X g m1) (fun τ=>hI1.ok τ) ts args vs x hx (ArgsOK.mono hx1.gx hx1.holds hargs);cases hF:F x with
  | none=>rw[hF] at hrun; cases hrun
  | some y =>
   rw[hF] at hrun;have hrun:(bif hasSl rs then k (resAV rs y) m1 g.n else k (resAV rs y) m g.n)=some r:=hrun
   let g0:G:={ loc:=fun _=>default,n:=0,dom:=fun _=>False,rt:=g.rt }
   let E:Env:=⟨C.nt,0,w.heap.size,none,rtOf P⟩
   have hE:EnvOK P C.ek E:=⟨rfl,hpin.symm,fun _=>rfl,rfl⟩
   let X':Nat->Prop:=fun b=>X b \/ Own g m1 b
   have hok:∀ b,okB X g m1 b ↔ okB X' g0 [] b:=by
    intro b;constructor
    ·rintro ⟨h1,h2⟩;exact ⟨fun h=>h.elim h1 h2,Ye1⟩
    ·rintro ⟨h1,h2⟩;exact ⟨fun h=>h1 (.inl h),fun h=>h1 (.inr h)⟩
   have hI0:Inv g0 X' [] w:=by
    refine ⟨fun τ=>trivial,fun τ τ' h=>(by cases h.1),fun τ h=>(by cases h.1),fun b hb=>?_,fun τ _=>rfl,fun τ h=>h.elim,fun τ i h=>(by cases h.1)⟩;rcases hb with hb | hb
    ·exact hI1.xlt b hb
    ·exact hI1.ownlt hb
   have hh0:Holds w (okB X g m1) w (okB X' g0 []):=fun b hb _=>⟨(hok b).1 hb,rfl⟩
   have hargs0:ArgsOK g0 w (okB X' g0 []) (ofHL ts x) vs:=(Y4.mono hh0 ts x vs hd).args g0;have hlen:vs.length=ts.length:=hd.length;have hexec:=heq x;rw[hF] at hexec
   have hgoal:CallsIn Fence.wide 0 P f vs.toArray w (Y3 X g m w k kp r):=by
    refine callsIn_of_wp_marks hf hb trivial ?_;refine wpIn_mono (Y6e hC hE c hS (initFr 0 (ofHL ts x)) [] g0 _ y X' { tmps:=vs.toArray++Array.replicate (fn.ntmps - vs.toArray.size) undef,defers:=[] } w hexec ⟨hI0,?_,?_,trivial,hrt,Nat.le_refl _⟩) ?_
    ·refine Y95 _ vs 0 _ hargs0 (fun i v hv=>?_);have hi:i < vs.length:=(List.getElem?_eq_some_iff.1 hv).1;simp only[Nat.zero_add,Array.getD_eq_getD_getElem?];rw[Array.getElem?_append_left (by simpa using hi)];simp[hv]
    ·show (vs.toArray++Array.replicate (fn.ntmps - vs.toArray.size) undef).size=C.nt;simp[hlen,hnt]; omega
    ·rintro e a' w' ⟨e',fr',m',g',q1,q2,q3,q4⟩
     have hmain:(∃ l,Yfw C fr' m' fn.results.toList=some l/\toHL (frzL (toksL l) m') rs l=some y)->LeavesInM Fence.wide 0 P fn a'.tmps (Y3 X g m w k kp r) a'.defers .returning w':=by
      rintro ⟨l,hl,hy⟩;refine Ya5 (by intro e; cases e) a'.defers w' q3.defers (DSame.refl _ _) q3.defers.at (fun w2 hd2=>?_);have q4:=hd2.ext (Nat.le_refl _) q4;have hI2:=hd2.inv q3.inv;have hfr2:FrOK g' w2 (okB X' g' m') fr' a'.tmps:=FrOK.mono (GExt.refl g') (hd2.holds _) q3.fr;obtain ⟨us,u1,u2⟩:=Yfx hC hI2 hfr2 fn.results.toList l hl;obtain ⟨hI2,hx2⟩:=Inv.frzL (toksL l) hI2;have hd2:=Yjz (g:=g') (w:=w2) (ok:=okB X' g' (frzL (toksL l) m')) (fun τ=>hI2.ok τ) rs l us y hy (ArgsOK.mono hx2.gx hx2.holds u2);refine ⟨resVal us,Yh2 u1,.inl ?_⟩;have hkeep:∀ b,b < w.heap.size->w2.heap[b]?=w.heap[b]?:=fun b hb=>q4.keep b hb Ye1
      have back:∀ {mm:Mem},Inv g X mm w->Ext g m w g mm w->Inv g X mm w2/\Ext g m w g mm w2:=by
       intro mm hIm hxm;have hxx:Ext g mm w g mm w2:=⟨GExt.refl g,fun _ h=>.inl h,q4.size,fun b hb _=>hkeep b hb,fun b hb=>.inl hb,q4.os,q4.tape,q4.output⟩
       refine ⟨hIm.step hxx (fun τ=>?_) hIm.inj hIm.far hIm.fresh hIm.dlt (MoLe.refl g mm) (fun σ k=>.inl ⟨σ,k,rfl⟩),hxm.trans hxx⟩;by_cases hlt:g.dom τ
       ·exact .inl ⟨hlt,rfl,fun hl=>hkeep _ (hIm.heap_lt hl),fun i hl=>hkeep _ (hIm.sb τ i hl).1⟩
       ·right; rw[hIm.fresh τ hlt]; trivial
      cases hsl:hasSl rs with
      | true =>
       rw[hsl] at hrun;obtain ⟨b1,b2⟩:=back hI1 hx1;have hh2:Holds w2 (okB X' g' (frzL (toksL l) m')) w2 (okB X g m1):=fun b hb _=>⟨⟨fun h=>hb.1 (.inl h),fun h=>hb.1 (.inr h)⟩,rfl⟩
       exact ⟨resAV rs y,m1,g,resVal us,rfl,hrun,b1,Yfu rs y us (Y4.mono hh2 rs y us hd2),b2⟩
      | false =>
       rw[hsl] at hrun;obtain ⟨b1,b2⟩:=back hI (Ext.refl _ _ _);exact ⟨resAV rs y,m,g,resVal us,rfl,hrun,b1,Yfu rs y us (Y4.free rs y us hsl hd2),b2⟩
     have hopt:∀ (o:Option (List AV)),(match o with | some l=>toHL (frzL (toksL l) m') rs l | none=>none)=some y->∃ l,o=some l/\toHL (frzL (toksL l) m') rs l=some y:=by
      intro o ho;cases o with
      | none=>cases ho
      | some l=>exact ⟨l,rfl,ho⟩
     cases e' with
     | normal=>cases q1; exact hmain (hopt _ q2)
     | ret=>cases q1; exact hmain (hopt _ q2)
     | exit i=>cases q2
     | goto l=>cases q2
     | panic v=>cases q2
   exact callsIn_wide.1 hgoal
 ·cases hrun
end
structure Dyn where
 t:Ty
 x:t.T
inductive Pat where
 | hole (t:Ty)
 | hpv (t:Ty)
 | pr (a b:Pat)
 | one (a:Pat)
 | nl
 | sl (j:Nat)
 | ptr (j:Nat) (p:Path)
 | va (j:Nat) (p:Path) (n sz:Nat)
 | nilp
 | mp (j:Nat)
 | nilm
 | fn (f:FuncId) (a b:Pat)
 | nilf
 | nili
 | yl (j:Nat)
 | ifc (t:TypeId) (a:Pat)
 | nil
 | cons (a b:Pat)
 | dead
inductive BPat where
 | var (p:Pat)
 | row (t:Ty)
 | frz (t:Ty)
 | mp (kt vt:Ty)
 | lp (id:Nat) (slots:List Nat) (p:Pat)
 | lpt (id:Nat) (slots:List Nat) (p:Pat)
 | fm (ks:List Int) (p:Pat)
 | mo (kt t:Ty)
 | gone
abbrev Asg:=List (Nat × Option Nat)
def alook (j:Nat):Asg->Option (Option Nat)
 | []=>none
 | (i,v) :: l=>bif Nat.beq i j then some v else alook j l
def sameO:Option Nat->Option Nat->Bool
 | none,none=>true
 | some a,some b=>Nat.beq a b
 | _,_=>false
def asgn (j:Nat) (v:Option Nat) (as:Asg):Option Asg:=match alook j as with
 | none=>some ((j,v) :: as)
 | some u=>bif sameO v u then some as else none
def selBeq:Sel->Sel->Bool
 | .fld a b c,.fld x y z=>Nat.beq a x && ((b == y) && Nat.beq c z)
 | .inn,.inn=>true
 | _,_=>false
def Yee:Path->Path->Bool
 | [],[]=>true
 | a :: p,b :: q=>selBeq a b && Yee p q
 | _,_=>false
def pathMt:Path->Path->Option (List Dyn)
 | [],[]=>some []
 | .idx _ sz n :: p,.idx i sz' n' :: q=>bif Nat.beq sz sz' && Nat.beq n n' then match pathMt p q with
  | some l=>some (⟨.int .i64,natI i⟩ :: l)
  | none=>none else none
 | a :: p,b :: q=>bif selBeq a b then pathMt p q else none
 | _,_=>none
def dynN:List Dyn->Nat
 | ⟨.int _,n⟩ :: _=>toN n
 | _=>0
def Yeg:Path->List Dyn->Path × List Dyn
 | [],l=>([],l)
 | .idx _ sz n :: p,l=>(.idx (dynN l) sz n :: (Yeg p l.tail).1,(Yeg p l.tail).2)
 | s :: p,l=>(s :: (Yeg p l).1,(Yeg p l).2)
def dynL (ds:Option (List Dyn)) (x:Option Asg):Option (List Dyn × Asg):=match ds,x with
 | some l,some as=>some (l,as)
 | _,_=>none
def noneL (x:Option Asg):Option (List Dyn × Asg):=match x with
 | some as=>some ([],as)
 | none=>none
def Pat.mt (m:Mem):Pat->AV->Asg->Option (List Dyn × Asg)
 | .hole t,v,as=>match v.data m t with
  | some x=>some ([⟨t,x⟩],as)
  | none=>none
 | .hpv t,v,as=>match v with
  | .pv t' x=>match Ty.conv t' t x with
   | some y=>some ([⟨t,y⟩],as)
   | none=>none
  | _=>none
 | .pr a b,v,as=>match v.split with
  | some (u,u')=>match Pat.mt m a u as with
   | some (d1,as1)=>match Pat.mt m b u' as1 with
    | some (d2,as2)=>some (d1++d2,as2)
    | none=>none
   | none=>none
  | none=>none
 | .one a,v,as=>match v.sel .inn with
  | some u=>Pat.mt m a u as
  | none=>none
 | .nl,v,as=>match v with
  | .nl=>some ([],as)
  | _=>none
 | .sl j,v,as=>match v with
  | .sl τ=>noneL (asgn j (some τ) as)
  | .nl=>noneL (asgn j none as)
  | _=>none
 | .ptr j p,v,as=>match v with
  | .ptr τ q=>dynL (pathMt p q) (asgn j (some τ) as)
  | _=>none
 | .va j p n sz,v,as=>match v with
  | .va τ q n' sz'=>bif Nat.beq n n' && Nat.beq sz sz' then dynL (pathMt p q) (asgn j (some τ) as) else none
  | _=>none
 | .nilp,v,as=>match v with
  | .nilp=>some ([],as)
  | _=>none
 | .mp j,v,as=>match v with
  | .mp τ=>noneL (asgn j (some τ) as)
  | _=>none
 | .nilm,v,as=>match v with
  | .nilm=>some ([],as)
  | _=>none
 | .fn f a b,v,as=>match v with
  | .fn f' u u'=>bif Nat.beq f f' then match Pat.mt m a u as with
   | some (d1,as1)=>match Pat.mt m b u' as1 with
    | some (d2,as2)=>some (d1++d2,as2)
    | none=>none
   | none=>none else none
  | _=>none
 | .nilf,v,as=>match v with
  | .nilf=>some ([],as)
  | _=>none
 | .nili,v,as=>match v with
  | .nili=>some ([],as)
  | _=>none
 | .yl j,v,as=>match v with
  | .yl τ=>noneL (asgn j (some τ) as)
  | _=>none
 | .ifc t a,v,as=>match v with
  | .ifc t' u=>bif Nat.beq t t' then Pat.mt m a u as else none
  | _=>none
 | .nil,v,as=>match v with
  | .nil=>some ([],as)
  | _=>none
 | .cons a b,v,as=>match v with
  | .cons u u'=>match Pat.mt m a u as with
   | some (d1,as1)=>match Pat.mt m b u' as1 with
    | some (d2,as2)=>some (d1++d2,as2)
    | none=>none
   | none=>none
  | _=>none
 | .dead,v,as=>bif Nat.beq v.size 1 && (v.sto && !v.isAgg) then some ([],as) else none
def Pat.fill:Pat->List Dyn->AV × List Dyn
 | .hole _,d :: l=>(.d d.t d.x,l)
 | .hpv _,d :: l=>(.pv d.t d.x,l)
 | .pr a b,l=>(.pr (Pat.fill a l).1 (Pat.fill b (Pat.fill a l).2).1,(Pat.fill b (Pat.fill a l).2).2)
 | .one a,l=>(.one (Pat.fill a l).1,(Pat.fill a l).2)
 | .nl,l=>(.nl,l)
 | .sl j,l=>(.sl j,l)
 | .ptr j p,l=>(.ptr j (Yeg p l).1,(Yeg p l).2)
 | .va j p n sz,l=>(.va j (Yeg p l).1 n sz,(Yeg p l).2)
 | .nilp,l=>(.nilp,l)
 | .mp j,l=>(.mp j,l)
 | .nilm,l=>(.nilm,l)
 | .fn f a b,l=>(.fn f (Pat.fill a l).1 (Pat.fill b (Pat.fill a l).2).1,(Pat.fill b (Pat.fill a l).2).2)
 | .nilf,l=>(.nilf,l)
 | .nili,l=>(.nili,l)
 | .yl j,l=>(.yl j,l)
 | .ifc t a,l=>(.ifc t (Pat.fill a l).1,(Pat.fill a l).2)
 | .nil,l=>(.nil,l)
 | .cons a b,l=>(.cons (Pat.fill a l).1 (Pat.fill b (Pat.fill a l).2).1,(Pat.fill b (Pat.fill a l).2).2)
 | .dead,l=>(.dead,l)
 | .hole _,[]=>(.dead,[])
 | .hpv _,[]=>(.dead,[])
def Pat.fz:Pat->AV->List Nat
 | .hole _,v=>v.toks
 | .pr a b,v=>match v.split with
  | some (u,u')=>Pat.fz a u++Pat.fz b u'
  | none=>[]
 | .one a,v=>match v.sel .inn with
  | some u=>Pat.fz a u
  | none=>[]
 | .fn _ a b,v=>match v with
  | .fn _ u u'=>Pat.fz a u++Pat.fz b u'
  | _=>[]
 | .cons a b,v=>match v with
  | .cons u u'=>Pat.fz a u++Pat.fz b u'
  | _=>[]
 | .ifc _ a,v=>match v with
  | .ifc _ u=>Pat.fz a u
  | _=>[]
 | _,_=>[]
def asgn' (j:Nat) (v:Option Nat) (as:Asg):Asg:=match alook j as with
 | none=>(j,v) :: as
 | some _=>as
def Pat.asn:Pat->AV->Asg->Asg
 | .pr a b,v,as=>match v.split with
  | some (u,u')=>Pat.asn b u' (Pat.asn a u as)
  | none=>as
 | .one a,v,as=>match v.sel .inn with
  | some u=>Pat.asn a u as
  | none=>as
 | .sl j,v,as=>match v with
  | .sl τ=>asgn' j (some τ) as
  | .nl=>asgn' j none as
  | _=>as
 | .ptr j _,v,as=>match v with
  | .ptr τ _=>asgn' j (some τ) as
  | _=>as
 | .va j _ _ _,v,as=>match v with
  | .va τ _ _ _=>asgn' j (some τ) as
  | _=>as
 | .mp j,v,as=>match v with
  | .mp τ=>asgn' j (some τ) as
  | _=>as
 | .yl j,v,as=>match v with
  | .yl τ=>asgn' j (some τ) as
  | _=>as
 | .fn _ a b,v,as=>match v with
  | .fn _ u u'=>Pat.asn b u' (Pat.asn a u as)
  | _=>as
 | .cons a b,v,as=>match v with
  | .cons u u'=>Pat.asn b u' (Pat.asn a u as)
  | _=>as
 | .ifc _ a,v,as=>match v with
  | .ifc _ u=>Pat.asn a u as
  | _=>as
 | _,_,as=>as
def Yig:List (Nat × Pat)->Fr->Asg->Asg
 | [],_,as=>as
 | (n,p) :: l,fr,as=>Yig l fr (p.asn (fget n fr) as)
def blksFz (m:Mem):List BPat->Nat->Asg->List Nat
 | [],_,_=>[]
 | b :: l,j,as=>match b,alook j as with
  | .var p,some (some τ)=>match mget τ m with
   | .var v=>p.fz v++blksFz m l (j+1) (p.asn v as)
   | _=>blksFz m l (j+1) as
  | .lp _ _ p,some (some τ)=>match mget τ m with
   | .lp _ _ v _=>p.fz v++blksFz m l (j+1) (p.asn v as)
   | _=>blksFz m l (j+1) as
  | .lpt _ _ p,some (some τ)=>match mget τ m with
   | .lp _ _ v _=>p.fz v++blksFz m l (j+1) (p.asn v as)
   | _=>blksFz m l (j+1) as
  | .fm _ p,some (some τ)=>match mget τ m with
   | .fm _ v=>p.fz v++blksFz m l (j+1) (p.asn v as)
   | _=>blksFz m l (j+1) as
  | _,_=>blksFz m l (j+1) as
def pinAs:Nat->Asg
 | 0=>[]
 | n+1=>(n,some n) :: pinAs n
def Pat.stoP:Pat->Bool
 | .nil | .cons _ _ | .dead=>false
 | .pr a b=>a.stoP && b.stoP
 | .one a=>a.stoP
 | _=>true
def beqIs:List Int->List Int->Bool
 | [],[]=>true
 | a :: l,b :: l'=>eqI a b && beqIs l l'
 | _,_=>false
theorem Y2e:∀ {l l':List Int},beqIs l l'=true->l=l'
 | [],[],_=>rfl
 | a :: l,b :: l',h=>by
  simp only[beqIs,ba9] at h;have h1:a=b:=by have:=h.1; unfold eqI at this; simpa using this
  rw[h1,Y2e h.2]
 | [],_ :: _,h=>by cases h
 | _ :: _,[],h=>by cases h
def BPat.mt (m:Mem):BPat->Blk->Asg->Option (List Dyn × Asg)
 | .var p,b,as=>match b with
  | .var v=>bif p.stoP then p.mt m v as else none
  | _=>none
 | .row t,b,as=>match b with
  | .row t' xs=>match Ty.conv (.slice t') (.slice t) xs with
   | some ys=>some ([⟨.slice t,ys⟩],as)
   | none=>none
  | _=>none
 | .mp kt vt,b,as=>match b with
  | .mp k' v' l=>match Ty.conv (.slice (.pair k' v')) (.slice (.pair kt vt)) l with
   | some ys=>some ([⟨.slice (.pair kt vt),ys⟩],as)
   | none=>none
  | _=>none
 | .frz t,b,as=>match b with
  | .frz t' xs=>match Ty.conv (.slice t') (.slice t) xs with
   | some ys=>some ([⟨.slice t,ys⟩],as)
   | none=>none
  | _=>none
 | .lp id slots p,b,as=>match b with
  | .lp id' slots' sv tag=>bif Nat.beq id id' && (beqNs slots slots' && tag == (0:Int)) then p.mt m sv as else none
  | _=>none
 | .lpt id slots p,b,as=>match b with
  | .lp id' slots' sv tag=>bif Nat.beq id id' && beqNs slots slots' then match p.mt m sv as with
   | some (d1,as1)=>some (⟨.int .i64,tag⟩ :: d1,as1)
   | none=>none else none
  | _=>none
 | .fm ks p,b,as=>match b with
  | .fm ks' v=>bif beqIs ks ks' then p.mt m v as else none
  | _=>none
 | .mo kt t,b,as=>match b with
  | .mo k' t' l none=>match Ty.conv (.slice (.pair k' (.slice t'))) (.slice (.pair kt (.slice t))) l with
   | some ys=>some ([⟨.slice (.pair kt (.slice t)),ys⟩],as)
   | none=>none
  | _=>none
 | .gone,_,as=>some ([],as)
def BPat.nil:BPat->Option (List Dyn)
 | .row t=>some [⟨.slice t,[]⟩]
 | _=>none
def rowB (d:Dyn):Blk:=match d with
 | ⟨.slice t,xs⟩=>.row t xs
 | _=>.gone
def mpB (d:Dyn):Blk:=match d with
 | ⟨.slice (.pair k v),xs⟩=>.mp k v xs
 | _=>.gone
def frzB (d:Dyn):Blk:=match d with
 | ⟨.slice t,xs⟩=>.frz t xs
 | _=>.gone
def moB (d:Dyn):Blk:=match d with
 | ⟨.slice (.pair k (.slice t)),xs⟩=>.mo k t xs none
 | _=>.gone
def lpB (id:Nat) (slots:List Nat) (v:AV) (d:Dyn):Blk:=match d with
 | ⟨.int _,n⟩=>.lp id slots v n
 | _=>.gone
def BPat.fill:BPat->List Dyn->Blk × List Dyn
 | .var p,l=>(.var (p.fill l).1,(p.fill l).2)
 | .row _,d :: l=>(rowB d,l)
 | .mp _ _,d :: l=>(mpB d,l)
 | .frz _,d :: l=>(frzB d,l)
 | .lp id slots p,l=>(.lp id slots (p.fill l).1 0,(p.fill l).2)
 | .lpt id slots p,d :: l=>(lpB id slots (p.fill l).1 d,(p.fill l).2)
 | .fm ks p,l=>(.fm ks (p.fill l).1,(p.fill l).2)
 | .mo _ _,d :: l=>(moB d,l)
 | .gone,l=>(.gone,l)
 | _,[]=>(.gone,[])
def Yik (m:Mem):List (Nat × Pat)->Fr->Asg->Option (List Dyn × Asg)
 | [],_,as=>some ([],as)
 | (n,p) :: l,fr,as=>match p.mt m (fget n fr) as with
  | some (d1,as1)=>match Yik m l fr as1 with
   | some (d2,as2)=>some (d1++d2,as2)
   | none=>none
  | none=>none
def Yij:List (Nat × Pat)->Fr->List Nat
 | [],_=>[]
 | (n,p) :: l,fr=>p.fz (fget n fr)++Yij l fr
def blksMt (m:Mem):List BPat->Nat->Asg->Option (List Dyn × Asg)
 | [],_,as=>some ([],as)
 | b :: l,j,as=>match alook j as with
  | some (some τ)=>match b.mt m (mget τ m) as with
   | some (d1,as1)=>match blksMt m l (j+1) as1 with
    | some (d2,as2)=>some (d1++d2,as2)
    | none=>none
   | none=>none
  | some none=>match b.nil with
   | some d1=>match blksMt m l (j+1) as with
    | some (d2,as2)=>some (d1++d2,as2)
    | none=>none
   | none=>none
  | none=>none
def Yih:List (Nat × Pat)->List Dyn->Fr × List Dyn
 | [],d=>([],d)
 | (n,p) :: l,d=>((n,(p.fill d).1) :: (Yih l (p.fill d).2).1,(Yih l (p.fill d).2).2)
def Y2q:List BPat->Nat->List Dyn->Mem × List Dyn
 | [],_,d=>([],d)
 | b :: l,j,d=>((j,(b.fill d).1) :: (Y2q l (j+1) (b.fill d).2).1,(Y2q l (j+1) (b.fill d).2).2)
def notIn (τ:Nat):Asg->Bool
 | []=>true
 | (_,some σ) :: l=>!Nat.beq τ σ && notIn τ l
 | (_,none) :: l=>notIn τ l
def apart:Asg->Bool
 | []=>true
 | (_,some τ) :: l=>notIn τ l && apart l
 | (_,none) :: l=>apart l
def below (n:Nat):Asg->Bool
 | []=>true
 | (j,_) :: l=>Nat.blt j n && below n l
structure Shape where
 sl:List (Nat × Pat)
 bl:List BPat
 ts:List Ty
 pin:Nat:=0
def dynHL:(ts:List Ty)->List Dyn->Option (HL ts)
 | [],[]=>some ()
 | [t],[d]=>Ty.conv d.t t d.x
 | t :: u :: l,d :: ds=>match Ty.conv d.t t d.x,dynHL (u :: l) ds with
  | some x,some y=>some (x,y)
  | _,_=>none
 | _,_=>none
def hlDyn:(ts:List Ty)->HL ts->List Dyn
 | [],_=>[]
 | [t],x=>[⟨t,x⟩]
 | t :: u :: l,x=>⟨t,x.1⟩ :: hlDyn (u :: l) x.2
def Shape.get1 (sh:Shape) (fr:Fr) (m:Mem):Option (HL sh.ts × Asg):=match Yik m sh.sl fr (pinAs sh.pin) with
 | some (d1,as1)=>match blksMt m sh.bl 0 as1 with
  | some (d2,as2)=>bif apart as2 && below sh.bl.length as2 then match dynHL sh.ts (d1++d2) with
   | some x=>some (x,as2)
   | none=>none else none
  | none=>none
 | none=>none
def Shape.fzs (sh:Shape) (fr:Fr) (m:Mem):List Nat:=Yij sh.sl fr++blksFz m sh.bl 0 (Yig sh.sl fr (pinAs sh.pin))
def Shape.getA (sh:Shape) (fr:Fr) (m:Mem):Option (HL sh.ts × Asg):=sh.get1 fr (frzL (sh.fzs fr m) m)
def Shape.get (sh:Shape) (fr:Fr) (m:Mem):Option (HL sh.ts):=match sh.getA fr m with
 | some (x,_)=>some x
 | none=>none
def Shape.fr (sh:Shape) (x:HL sh.ts):Fr:=(Yih sh.sl (hlDyn sh.ts x)).1
def Shape.mem (sh:Shape) (x:HL sh.ts):Mem:=(Y2q sh.bl 0 (Yih sh.sl (hlDyn sh.ts x)).2).1
theorem Y4s {d:Dyn} {t:Ty} {x:t.T} (h:Ty.conv d.t t d.x=some x):(⟨t,x⟩:Dyn)=d:=by
 cases d with
 | mk t' y =>
  obtain ⟨e,he⟩:=Y4v h;have e:t'=t:=e;subst e;have he:x=y:=he;rw[he]
theorem dyn_hl:∀ (ts:List Ty) (ds:List Dyn) (x:HL ts),dynHL ts ds=some x->hlDyn ts x=ds
 | [],[],x,h=>rfl
 | [t],[d],x,h=>congrArg (fun d=>[d]) (Y4s h)
 | t :: u :: l,d :: ds,x,h=>by
  have h':(match Ty.conv d.t t d.x,dynHL (u :: l) ds with | some x,some y=>some (x,y) | _,_=>none)=some x:=h;split at h'
  ·rename_i y z h1 h2;cases h';show _ :: hlDyn (u :: l) z=_;rw[dyn_hl (u :: l) ds z h2];exact congrArg (fun d=>d :: ds) (Y4s h1)
  ·cases h'
 | [],_ :: _,x,h=>by cases h
 | [t],[],x,h=>by cases h
 | [t],_ :: _ :: _,x,h=>by cases h
 | t :: u :: l,[],x,h=>by cases h
theorem Y1k (j i:Nat) (v:Option Nat) (as:Asg):alook j ((i,v) :: as)=if i=j then some v else alook j as:=by
 show (bif Nat.beq i j then some v else alook j as)=_;by_cases h:i=j
 ·subst h; rw[Nat.beq_refl]; simp
 ·rw[if_neg h];cases hb:Nat.beq i j with
  | false=>rfl
  | true=>exact absurd (eb9 hb) h
def Sub (as as':Asg):Prop:=∀ j o,alook j as=some o->alook j as'=some o
theorem Sub.refl (as:Asg):Sub as as:=fun _ _ h=>h
theorem Sub.trans {a b c:Asg} (h:Sub a b) (k:Sub b c):Sub a c:=fun j o e=>k j o (h j o e)
theorem Y26 {j:Nat} {v:Option Nat} {as as':Asg} (h:asgn j v as=some as'):Sub as as'/\alook j as'=some v:=by
 unfold asgn at h;cases hl:alook j as with
 | none =>
  rw[hl] at h; cases h;refine ⟨fun i o e=>?_,by rw[Y1k,if_pos rfl]⟩;rw[Y1k];split
  ·rename_i e2; subst e2; rw[hl] at e; cases e
  ·exact e
 | some u =>
  rw[hl] at h;have h:(bif sameO v u then some as else none)=some as':=h;obtain ⟨h1,h2⟩:=Y2j h;cases h2;refine ⟨Sub.refl _,?_⟩;rw[hl]; congr 1;cases u <;> cases v <;> first | rfl | cases h1 | (exact congrArg some (eb9 h1).symm)
theorem Ycz {x:Option Asg} {ds:List Dyn} {as':Asg} (h:noneL x=some (ds,as')):ds=[]/\x=some as':=by
 cases x with
 | none=>cases h
 | some a=>cases h; exact ⟨rfl,rfl⟩
theorem Yhc {a b:Sel} (h:selBeq a b=true):a=b:=by
 cases a <;> cases b <;> first
  | rfl
  | cases h
  | (simp only[selBeq,ba9] at h
     obtain ⟨h1,h2,h3⟩:=h;rw[eb9 h1,Y2h h2,eb9 h3])
theorem Yef:∀ (p q:Path),Yee p q=true->p=q
 | [],[],_=>rfl
 | a :: p,b :: q,h=>by
  simp only[Yee,ba9] at h;rw[Yhc h.1,Yef p q h.2]
 | [],_ :: _,h=>by cases h
 | _ :: _,[],h=>by cases h
theorem Yeh:∀ (p q:Path) (ds:List Dyn),pathMt p q=some ds->∀ rest,Yeg p (ds++rest)=(q,rest)
 | [],[],ds,h,rest=>by cases h; rfl
 | a :: p,[],ds,h,rest=>by cases a <;> cases h
 | [],b :: q,ds,h,rest=>by cases h
 | a :: p,b :: q,ds,h,rest=>by
  have other:(∀ i sz n,a=.idx i sz n->False)->(bif selBeq a b then pathMt p q else none)=some ds->Yeg (a :: p) (ds++rest)=(b :: q,rest):=by
   intro ha h;obtain ⟨h1,h2⟩:=Y2j h;have e:=Yhc h1;subst e;have ih:=Yeh p q ds h2 rest;cases a with
   | idx i sz n=>exact (ha i sz n rfl).elim
   | _=>simp only[Yeg,ih]
  cases a with
  | idx i sz n =>
   cases b with
   | idx i' sz' n' =>
    simp only[pathMt] at h;obtain ⟨h1,h2⟩:=Y2j h;rw[ba9] at h1;have e1:=eb9 h1.1;have e2:=eb9 h1.2;subst e1 e2;split at h2
    ·rename_i l hl;cases h2;have ih:=Yeh p q l hl rest;simp only[Yeg,List.cons_append,List.tail_cons,ih];rfl
    ·cases h2
   | _=>simp only[pathMt] at h; exact absurd (Y2j h).1 (by simp[selBeq])
  | fld k l o=>exact other (fun _ _ _ e=>by cases e) h
  | inn=>exact other (fun _ _ _ e=>by cases e) h
  | row i sz=>exact other (fun _ _ _ e=>by cases e) h
theorem Y5q {x:Option (List Dyn)} {y:Option Asg} {ds:List Dyn} {as':Asg} (h:dynL x y=some (ds,as')):x=some ds/\y=some as':=by
 cases x with
 | none=>cases h
 | some l=>cases y with
  | none=>cases h
  | some a=>cases h; exact ⟨rfl,rfl⟩
def MtOK (g g':G) (w:World) (ok ok':Nat->Prop) (p:Pat) (v:AV) (as:Asg) (ds:List Dyn) (as':Asg):Prop :=
 Sub as as'/\∀ asF,Sub as' asF->(∀ j τ,alook j asF=some (some τ)->g'.dom j/\g'.loc j=g.loc τ)->(∀ j,alook j asF=some none->g'.dom j/\(g'.loc j).sv=.slice none 0 0)->∀ rest,
  (p.fill (ds++rest)).2=rest/\(p.fill (ds++rest)).1.isAgg=v.isAgg/\(p.stoP=true->(p.fill (ds++rest)).1.sto=true) /\
  (∀ cs,RC g w ok v cs->RC g' w ok' (p.fill (ds++rest)).1 cs)/\(∀ l,RL g w ok v l->RL g' w ok' (p.fill (ds++rest)).1 l)
theorem size1 {g:G} {w:World} {ok:Nat->Prop} {v:AV} (h:v.size=1) {cs:List Value} (hc:RC g w ok v cs):∃ u,cs=[u]:=by
 have:=RC_len v cs hc
 match cs,this.trans h with
 | [u],_=>exact ⟨u,rfl⟩
theorem mt_ok {g g':G} {w:World} {ok ok':Nat->Prop} {m:Mem} (hf:∀ τ,BOK g w ok τ (mget τ m)) (hH:Holds w ok w ok'):∀ (p:Pat) (v:AV) (as:Asg) (ds:List Dyn) (as':Asg),p.mt m v as=some (ds,as')->MtOK g g' w ok ok' p v as ds as'
 | .hole t,v,as,ds,as',h=>by
  simp only[Pat.mt] at h;split at h
  ·rename_i x hx;cases h;refine ⟨Sub.refl _,fun asF _ _ _ rest=>⟨rfl,(Y53 hx).symm,fun _=>rfl,fun cs hc=>Y17 hH t x cs (Y56 hf v t x hx cs hc),fun l hl=>?_⟩⟩;cases v <;> first | exact hl.elim | (cases t <;> cases hx)
  ·cases h
 | .hpv t,v,as,ds,as',h=>by
  cases v with
  | pv t' y =>
   simp only[Pat.mt] at h;split at h
   ·rename_i x hx;cases h;obtain ⟨e,he⟩:=Y4v hx;subst e;have he:x=y:=he;subst he;exact ⟨Sub.refl _,fun asF _ _ _ rest=>⟨rfl,rfl,fun _=>rfl,fun cs hc=>let ⟨ad,cells,e1,e2,e3⟩:=hc; ⟨ad,cells,e1,Y17 hH t' x cells e2,Y1b hH e3⟩,fun l hl=>hl.elim⟩⟩
   ·cases h
  | _=>cases h
 | .pr a b,v,as,ds,as',h=>by
  simp only[Pat.mt] at h;split at h
  ·rename_i u u' hs;split at h
   ·rename_i d1 as1 h1;split at h
    ·rename_i d2 as2 h2;cases h;obtain ⟨s1,k1⟩:=mt_ok hf hH a u as d1 as1 h1;obtain ⟨s2,k2⟩:=mt_ok hf hH b u' as1 d2 as' h2;refine ⟨s1.trans s2,fun asF hF hA hN rest=>?_⟩;obtain ⟨q1,q2,q3,q4,q5⟩:=k1 asF (s2.trans hF) hA hN (d2++rest);obtain ⟨r1,r2,r3,r4,r5⟩:=k2 asF hF hA hN rest;simp only[Pat.fill,la9,q1,r1];refine ⟨trivial,?_,fun hsp=>?_,fun cs hc=>?_,fun l hl=>?_⟩
     ·unfold AV.split at hs; split at hs <;> first | rfl | cases hs
     ·simp only[Pat.stoP,ba9] at hsp;simp only[AV.sto,q3 hsp.1,r3 hsp.2,Bool.and_self]
     ·obtain ⟨c1,c2,e,e1,e2⟩:=Yj5 hs hc;exact ⟨c1,c2,e,q4 c1 e1,r4 c2 e2⟩
     ·unfold AV.split at hs; split at hs <;> first | exact hl.elim | cases hs
    ·cases h
   ·cases h
  ·cases h
 | .one a,v,as,ds,as',h=>by
  simp only[Pat.mt] at h;split at h
  ·rename_i u hs;obtain ⟨s1,k1⟩:=mt_ok hf hH a u as ds as' h;refine ⟨s1,fun asF hF hA hN rest=>?_⟩;obtain ⟨q1,q2,q3,q4,q5⟩:=k1 asF hF hA hN rest
   have hv:(∀ cs,RC g w ok v cs->RC g w ok u cs)/\v.isAgg=true/\∀ l,¬ RL g w ok v l:=by
    simp only[AV.sel] at hs;split at hs
    ·cases hs; exact ⟨fun cs hc=>hc,rfl,fun l hl=>hl.elim⟩
    ·cases hs; exact ⟨fun cs hc=>hc,rfl,fun l hl=>hl.elim⟩
    ·cases hs
   exact ⟨q1,hv.2.1.symm,fun hsp=>q3 hsp,fun cs hc=>q4 cs (hv.1 cs hc),fun l hl=>(hv.2.2 l hl).elim⟩
  ·cases h
 | .nl,v,as,ds,as',h=>by
  cases v <;> first | (cases h; done) | (cases h; exact ⟨Sub.refl _,fun asF _ _ _ rest=>⟨rfl,rfl,fun _=>rfl,fun cs hc=>hc,fun l hl=>hl.elim⟩⟩)
 | .sl j,v,as,ds,as',h=>by
  cases v with
  | sl τ =>
   obtain ⟨e0,h'⟩:=Ycz h;subst e0;obtain ⟨h1,h2⟩:=Y26 h';refine ⟨h1,fun asF hF hA hN rest=>⟨rfl,rfl,fun _=>rfl,fun cs hc=>?_,fun l hl=>hl.elim⟩⟩;obtain ⟨k1,k2⟩:=hA j τ (hF _ _ h2);exact ⟨k1,by rw[k2]; exact hc.2⟩
  | nl =>
   obtain ⟨e0,h'⟩:=Ycz h;subst e0;obtain ⟨h1,h2⟩:=Y26 h';refine ⟨h1,fun asF hF hA hN rest=>⟨rfl,rfl,fun _=>rfl,fun cs hc=>?_,fun l hl=>hl.elim⟩⟩;obtain ⟨k1,k2⟩:=hN j (hF _ _ h2);exact ⟨k1,by rw[k2]; exact hc⟩
  | _=>cases h
 | .ptr j p,v,as,ds,as',h=>by
  cases v with
  | ptr τ q =>
   simp only[Pat.mt] at h;obtain ⟨e0,h'⟩:=Y5q h;have hpf:=Yeh p q ds e0;obtain ⟨h1,h2⟩:=Y26 h';refine ⟨h1,fun asF hF hA hN rest=>⟨by simp only[Pat.fill,hpf],rfl,fun _=>rfl,fun cs hc=>?_,fun l hl=>hl.elim⟩⟩;obtain ⟨k1,k2⟩:=hA j τ (hF _ _ h2);simp only[Pat.fill,hpf];exact ⟨k1,by rw[k2]; exact hc.2.1,by rw[k2]; exact hc.2.2⟩
  | _=>cases h
 | .va j p n sz,v,as,ds,as',h=>by
  cases v with
  | va τ q n' sz' =>
   simp only[Pat.mt] at h;obtain ⟨hn,h9⟩:=Y2j h;clear h;rw[ba9] at hn;have e1:=eb9 hn.1;have e2:=eb9 hn.2;subst e1 e2;obtain ⟨e0,h'⟩:=Y5q h9;have hpf:=Yeh p q ds e0;obtain ⟨h1,h2⟩:=Y26 h';refine ⟨h1,fun asF hF hA hN rest=>⟨by simp only[Pat.fill,hpf],rfl,fun _=>rfl,fun cs hc=>?_,fun l hl=>hl.elim⟩⟩;obtain ⟨k1,k2⟩:=hA j τ (hF _ _ h2);simp only[Pat.fill,hpf];exact ⟨k1,by rw[k2]; exact hc.2.1,by rw[k2]; exact hc.2.2⟩
  | _=>cases h
 | .nilp,v,as,ds,as',h=>by
  cases v <;> first | (cases h; done) | (cases h; exact ⟨Sub.refl _,fun asF _ _ _ rest=>⟨rfl,rfl,fun _=>rfl,fun cs hc=>hc,fun l hl=>hl.elim⟩⟩)
 | .mp j,v,as,ds,as',h=>by
  cases v with
  | mp τ =>
   obtain ⟨e0,h'⟩:=Ycz h;subst e0;obtain ⟨h1,h2⟩:=Y26 h';refine ⟨h1,fun asF hF hA hN rest=>⟨rfl,rfl,fun _=>rfl,fun cs hc=>?_,fun l hl=>hl.elim⟩⟩;obtain ⟨k1,k2⟩:=hA j τ (hF _ _ h2);exact ⟨k1,by rw[k2]; exact hc.2⟩
  | _=>cases h
 | .nilm,v,as,ds,as',h=>by
  cases v <;> first | (cases h; done) | (cases h; exact ⟨Sub.refl _,fun asF _ _ _ rest=>⟨rfl,rfl,fun _=>rfl,fun cs hc=>hc,fun l hl=>hl.elim⟩⟩)
 | .fn f a b,v,as,ds,as',h=>by
  cases v with
  | fn f' u u' =>
   simp only[Pat.mt] at h;obtain ⟨hp,h3⟩:=Y2j h;have hff:=eb9 hp;clear h hp;subst hff;have h:=h3;clear h3;split at h
   ·rename_i d1 as1 h1;split at h
    ·rename_i d2 as2 h2;cases h;obtain ⟨s1,k1⟩:=mt_ok hf hH a u as d1 as1 h1;obtain ⟨s2,k2⟩:=mt_ok hf hH b u' as1 d2 as' h2;refine ⟨s1.trans s2,fun asF hF hA hN rest=>?_⟩;obtain ⟨q1,q2,q3,q4,q5⟩:=k1 asF (s2.trans hF) hA hN (d2++rest);obtain ⟨r1,r2,r3,r4,r5⟩:=k2 asF hF hA hN rest;simp only[Pat.fill,la9,q1,r1];refine ⟨trivial,rfl,fun _=>rfl,fun cs hc=>?_,fun l hl=>hl.elim⟩;obtain ⟨fs,ks,e1,e2,e3⟩:=hc;exact ⟨fs,ks,q5 fs e1,r5 ks e2,e3⟩
    ·cases h
   ·cases h
  | _=>cases h
 | .nilf,v,as,ds,as',h=>by
  cases v <;> first | (cases h; done) | (cases h; exact ⟨Sub.refl _,fun asF _ _ _ rest=>⟨rfl,rfl,fun _=>rfl,fun cs hc=>hc,fun l hl=>hl.elim⟩⟩)
 | .nili,v,as,ds,as',h=>by
  cases v <;> first | (cases h; done) | (cases h; exact ⟨Sub.refl _,fun asF _ _ _ rest=>⟨rfl,rfl,fun _=>rfl,fun cs hc=>hc,fun l hl=>hl.elim⟩⟩)
 | .yl j,v,as,ds,as',h=>by
  cases v with
  | yl τ =>
   obtain ⟨e0,h'⟩:=Ycz h;subst e0;obtain ⟨h1,h2⟩:=Y26 h';refine ⟨h1,fun asF hF hA hN rest=>⟨rfl,rfl,fun _=>rfl,fun cs hc=>?_,fun l hl=>hl.elim⟩⟩;obtain ⟨k1,k2⟩:=hA j τ (hF _ _ h2);exact ⟨k1,by rw[k2]; exact hc.2⟩
  | _=>cases h
 | .ifc t a,v,as,ds,as',h=>by
  cases v with
  | ifc t' u =>
   simp only[Pat.mt] at h;obtain ⟨hp,h3⟩:=Y2j h;have hff:=eb9 hp;clear h hp;subst hff;obtain ⟨s1,k1⟩:=mt_ok hf hH a u as ds as' h3;refine ⟨s1,fun asF hF hA hN rest=>?_⟩;obtain ⟨q1,q2,q3,q4,q5⟩:=k1 asF hF hA hN rest;simp only[Pat.fill,q1];refine ⟨trivial,rfl,fun _=>rfl,fun cs hc=>?_,fun l hl=>hl.elim⟩;obtain ⟨cv,e1,e2,e3⟩:=hc;exact ⟨cv,e1,fun ha=>let ⟨dd,p1,p2⟩:=e2 (q2 ▸ ha); ⟨dd,p1,q4 dd p2⟩,fun ha=>q4 _ (e3 (q2 ▸ ha))⟩
  | _=>cases h
 | .nil,v,as,ds,as',h=>by
  cases v <;> first | (cases h; done) | (cases h; exact ⟨Sub.refl _,fun asF _ _ _ rest=>⟨rfl,rfl,fun hh=>(by cases hh),fun cs hc=>hc.elim,fun l hl=>hl⟩⟩)
 | .cons a b,v,as,ds,as',h=>by
  cases v with
  | cons u u' =>
   simp only[Pat.mt] at h;split at h
   ·rename_i d1 as1 h1;split at h
    ·rename_i d2 as2 h2;cases h;obtain ⟨s1,k1⟩:=mt_ok hf hH a u as d1 as1 h1;obtain ⟨s2,k2⟩:=mt_ok hf hH b u' as1 d2 as' h2;refine ⟨s1.trans s2,fun asF hF hA hN rest=>?_⟩;obtain ⟨q1,q2,q3,q4,q5⟩:=k1 asF (s2.trans hF) hA hN (d2++rest);obtain ⟨r1,r2,r3,r4,r5⟩:=k2 asF hF hA hN rest;simp only[Pat.fill,la9,q1,r1];refine ⟨trivial,rfl,fun hh=>(by cases hh),fun cs hc=>hc.elim,fun l hl=>?_⟩;obtain ⟨x,l',e,⟨e1,e2⟩,e3⟩:=hl;exact ⟨x,l',e,⟨fun ha=>let ⟨dd,p1,p2⟩:=e1 (q2 ▸ ha); ⟨dd,p1,q4 dd p2⟩,fun ha=>q4 [x] (e2 (q2 ▸ ha))⟩,r5 l' e3⟩
    ·cases h
   ·cases h
  | _=>cases h
 | .dead,v,as,ds,as',h=>by
  simp only[Pat.mt] at h;obtain ⟨hb,h⟩:=Y2j h;cases h;simp only[ba9,Bool.not_eq_true'] at hb;refine ⟨Sub.refl _,fun asF _ _ _ rest=>⟨rfl,hb.2.2.symm,fun hh=>(by cases hh),fun cs hc=>size1 (eb9 hb.1) hc,fun l hl=>?_⟩⟩;have:=hb.2.1;cases v <;> first | exact hl.elim | cases this
theorem Yin {g g':G} {w:World} {ok ok':Nat->Prop} {m:Mem} (hf:∀ τ,BOK g w ok τ (mget τ m)) (hH:Holds w ok w ok') {fr:Fr} {tmps:Array Value} (hfr:FrOK g w ok fr tmps):∀ (l:List (Nat × Pat)) (as:Asg) (ds:List Dyn) (as':Asg),Yik m l fr as=some (ds,as') ->
  Sub as as'/\∀ asF,Sub as' asF->(∀ j τ,alook j asF=some (some τ)->g'.dom j/\g'.loc j=g.loc τ)->(∀ j,alook j asF=some none->g'.dom j/\(g'.loc j).sv=.slice none 0 0)->∀ rest,
   (Yih l (ds++rest)).2=rest/\FrOK g' w ok' (Yih l (ds++rest)).1 tmps
 | [],as,ds,as',h=>by
  cases h;exact ⟨Sub.refl _,fun asF _ _ _ rest=>⟨rfl,fun t=>Yr _ _ _ _⟩⟩
 | (n,p) :: l,as,ds,as',h=>by
  simp only[Yik] at h;split at h
  ·rename_i d1 as1 h1;split at h
   ·rename_i d2 as2 h2;cases h;obtain ⟨s1,k1⟩:=mt_ok (g':=g') hf hH p _ as d1 as1 h1;obtain ⟨s2,k2⟩:=Yin hf hH hfr l as1 d2 as' h2;refine ⟨s1.trans s2,fun asF hF hA hN rest=>?_⟩;obtain ⟨q1,q2,q3,q4,q5⟩:=k1 asF (s2.trans hF) hA hN (d2++rest);obtain ⟨r1,r2⟩:=k2 asF hF hA hN rest;simp only[Yih,la9,q1,r1];refine ⟨trivial,fun t=>?_⟩;rw[Y6i];split
    ·rename_i e; subst e;have hv:=hfr n;exact ⟨fun ha=>let ⟨dd,p1,p2⟩:=hv.1 (q2 ▸ ha); ⟨dd,p1,q4 dd p2⟩,fun ha=>q4 _ (hv.2 (q2 ▸ ha))⟩
    ·exact r2 t
   ·cases h
  ·cases h
theorem sv_nil {L:Loc} (h:L.sv=.slice none 0 0):L.nil=true/\L.len=0/\L.cap=0:=by
 unfold Loc.sv at h;cases hn:L.nil with
 | true=>rw[hn] at h; simp only[Value.slice.injEq] at h; exact ⟨rfl,h.2.1,h.2.2⟩
 | false=>rw[hn] at h; simp only[Value.slice.injEq] at h; cases h.1
theorem bmt_ok {g g':G} {w:World} {ok ok':Nat->Prop} {m:Mem} (hf:∀ τ,BOK g w ok τ (mget τ m)) (hH:Holds w ok w ok') (hrt:g'.rt=g.rt) {τ j:Nat}:∀ (b:BPat) (as:Asg) (ds:List Dyn) (as':Asg),b.mt m (mget τ m) as=some (ds,as') ->
  Sub as as'/\∀ asF,Sub as' asF->(∀ j τ,alook j asF=some (some τ)->g'.dom j/\g'.loc j=g.loc τ)->(∀ j,alook j asF=some none->g'.dom j/\(g'.loc j).sv=.slice none 0 0)->g'.loc j=g.loc τ->g'.sub j=g.sub τ->∀ rest,
   (b.fill (ds++rest)).2=rest/\BOK g' w ok' j (b.fill (ds++rest)).1/\((b.fill (ds++rest)).1.live=true->(mget τ m).live=true)/\∀ c,(b.fill (ds++rest)).1.has c=true->(mget τ m).has c=true
 | .var p,as,ds,as',h=>by
  simp only[BPat.mt] at h;have hB:=hf τ;cases hm:mget τ m with
  | var v =>
   rw[hm] at h hB;obtain ⟨hs,h⟩:=Y2j h;obtain ⟨s1,k1⟩:=mt_ok (g':=g') hf hH p v as ds as' h;refine ⟨s1,fun asF hF hA hN hj hj2 rest=>?_⟩;obtain ⟨q1,q2,q3,q4,q5⟩:=k1 asF hF hA hN rest;obtain ⟨b1,b2,b3,c,e,b4,b5⟩:=hB;exact ⟨q1,⟨by rw[hj]; exact b1,q3 hs,by rw[hj]; exact b3,c,e,by rw[hj]; exact b4,q4 _ b5⟩,fun _=>rfl,fun _ h=>(by cases h)⟩
  | _=>rw[hm] at h; cases h
 | .row t,as,ds,as',h=>by
  simp only[BPat.mt] at h;have hB:=hf τ;cases hm:mget τ m with
  | row t' xs =>
   rw[hm] at h hB;simp only at h;split at h
   ·rename_i ys hy;cases h;obtain ⟨e,he⟩:=Y4v hy;cases e;have he:ys=xs:=he;subst he;refine ⟨Sub.refl _,fun asF hF hA hN hj hj2 rest=>⟨rfl,?_,fun _=>rfl,fun _ h=>(by cases h)⟩⟩;show BOK g' w ok' j (.row t ys);obtain ⟨b1,b2,b0⟩:=hB;refine ⟨by rw[hj]; exact b1,by rw[hj]; exact b2,?_⟩;rw[hj];rcases b0 with b0 | ⟨b7,c,e,cells,b3,b4,b5,b6⟩
    ·exact .inl b0
    ·exact .inr ⟨b7,c,e,cells,b3,Yz (fun x cs=>Y17 hH t x cs) _ _ b4,b5,b6⟩
   ·cases h
  | _=>rw[hm] at h; cases h
 | .mp kt vt,as,ds,as',h=>by
  simp only[BPat.mt] at h;have hB:=hf τ;cases hm:mget τ m with
  | mp k' v' l =>
   rw[hm] at h hB;simp only at h;split at h
   ·rename_i ys hy;cases h;obtain ⟨e,he⟩:=Y4v hy;cases e;have he:ys=l:=he;subst he;refine ⟨Sub.refl _,fun asF hF hA hN hj hj2 rest=>⟨rfl,?_,fun _=>rfl,fun _ h=>(by cases h)⟩⟩;show BOK g' w ok' j (.mp kt vt ys);obtain ⟨b0,es,b1,b2,b3⟩:=hB;exact ⟨by rw[hj]; exact b0,es,by rw[hj]; exact b1,b2,fun i e p he hp=>Y5 hH (b3 i e p he hp)⟩
   ·cases h
  | _=>rw[hm] at h; cases h
 | .frz t,as,ds,as',h=>by
  simp only[BPat.mt] at h;have hB:=hf τ;cases hm:mget τ m with
  | frz t' xs =>
   rw[hm] at h hB;simp only at h;split at h
   ·rename_i ys hy;cases h;obtain ⟨e,he⟩:=Y4v hy;cases e;have he:ys=xs:=he;subst he;refine ⟨Sub.refl _,fun asF hF hA hN hj hj2 rest=>⟨rfl,?_,fun hl=>(by cases hl),fun _ h=>(by cases h)⟩⟩;show Rd w ok' (.slice t) ys [(g'.loc j).sv];rw[hj]; exact Y17 hH _ _ _ hB
   ·cases h
  | _=>rw[hm] at h; cases h
 | .lp id slots p,as,ds,as',h=>by
  simp only[BPat.mt] at h;have hB:=hf τ;cases hm:mget τ m with
  | lp id' slots' sv tag =>
   rw[hm] at h hB;obtain ⟨hs,h9⟩:=Y2j h;clear h;simp only[ba9] at hs;obtain ⟨e1,e2,e3⟩:=hs;have e1:=eb9 e1;have e2:=Y2g e2;have e3:tag=0:=by simpa using e3
   subst e1 e2 e3;obtain ⟨s1,k1⟩:=mt_ok (g':=g') hf hH p sv as ds as' h9;refine ⟨s1,fun asF hF hA hN hj hj2 rest=>?_⟩;obtain ⟨q1,q2,q3,q4,q5⟩:=k1 asF hF hA hN rest;obtain ⟨b1,rt,fn,tmps,D,st,pe,vs,b2,b3,b4,b5,b6,b7⟩:=hB;exact ⟨q1,⟨by rw[hj]; exact b1,rt,fn,tmps,D,st,pe,vs,by rw[hrt]; exact b2,by rw[hj]; exact b3,b4,q5 _ b5,b6,b7⟩,fun _=>rfl,fun _ h=>(by cases h)⟩
  | _=>rw[hm] at h; cases h
 | .lpt id slots p,as,ds,as',h=>by
  simp only[BPat.mt] at h;have hB:=hf τ;cases hm:mget τ m with
  | lp id' slots' sv tag =>
   rw[hm] at h hB;obtain ⟨hs,h9⟩:=Y2j h;clear h;simp only[ba9] at hs;obtain ⟨e1,e2⟩:=hs;have e1:=eb9 e1;have e2:=Y2g e2;subst e1 e2;split at h9
   ·rename_i d1 as1 h1;cases h9;obtain ⟨s1,k1⟩:=mt_ok (g':=g') hf hH p sv as d1 as' h1;refine ⟨s1,fun asF hF hA hN hj hj2 rest=>?_⟩;obtain ⟨q1,q2,q3,q4,q5⟩:=k1 asF hF hA hN rest;obtain ⟨b1,rt,fn,tmps,D,st,pe,vs,b2,b3,b4,b5,b6,b7⟩:=hB;exact ⟨q1,⟨by rw[hj]; exact b1,rt,fn,tmps,D,st,pe,vs,by rw[hrt]; exact b2,by rw[hj]; exact b3,b4,q5 _ b5,b6,b7⟩,fun _=>rfl,fun _ h=>(by cases h)⟩
   ·cases h9
  | _=>rw[hm] at h; cases h
 | .fm ks p,as,ds,as',h=>by
  simp only[BPat.mt] at h;have hB:=hf τ;cases hm:mget τ m with
  | fm ks' v =>
   rw[hm] at h hB;obtain ⟨hs,h9⟩:=Y2j h;clear h;have e1:=Y2e hs;subst e1;obtain ⟨s1,k1⟩:=mt_ok (g':=g') hf hH p v as ds as' h9;refine ⟨s1,fun asF hF hA hN hj hj2 rest=>?_⟩;obtain ⟨q1,q2,q3,q4,q5⟩:=k1 asF hF hA hN rest;obtain ⟨b1,es,cvs,b2,b3,b4,b5,b6⟩:=hB;exact ⟨q1,⟨by rw[hj]; exact b1,es,cvs,by rw[hj]; exact b2,b3,b4,q5 _ b5,b6⟩,fun _=>rfl,fun _ h=>(by cases h)⟩
  | _=>rw[hm] at h; cases h
 | .mo kt t,as,ds,as',h=>by
  simp only[BPat.mt] at h;have hB:=hf τ;cases hm:mget τ m with
  | mo k' t' l hh =>
   rw[hm] at h hB;cases hh with
   | some q=>cases h
   | none =>
   simp only at h;split at h
   ·rename_i ys hy;cases h;obtain ⟨e,he⟩:=Y4v hy;cases e;have he:ys=l:=he;subst he;refine ⟨Sub.refl _,fun asF hF hA hN hj hj2 rest=>⟨rfl,?_,fun _=>rfl,fun _ h=>h⟩⟩;show BOK g' w ok' j (.mo kt t ys none);obtain ⟨b0,es,b1,b2,b3,b4⟩:=hB;refine ⟨by rw[hj]; exact b0,es,by rw[hj]; exact b1,b2,fun i e p he hp=>?_,fun _ _ e=>by cases e⟩;obtain ⟨q1,⟨g0,q2⟩,q3⟩:=b3 i e p he hp;refine ⟨q1,⟨g0,Yt (GExt.refl g0) hH q2⟩,fun q=>?_⟩;rw[hj2];exact ⟨(q3 q).1,Y19 hH (fun _=>rfl) (q3 q).2⟩
   ·cases h
  | _=>rw[hm] at h; cases h
 | .gone,as,ds,as',h=>by
  cases h;exact ⟨Sub.refl _,fun asF _ _ _ _ _ rest=>⟨rfl,trivial,fun hl=>(by cases hl),fun _ h=>(by cases h)⟩⟩
theorem Y2u {g g':G} {w:World} {ok ok':Nat->Prop} {m:Mem} (hf:∀ τ,BOK g w ok τ (mget τ m)) (hH:Holds w ok w ok') (hrt:g'.rt=g.rt):∀ (l:List BPat) (j:Nat) (as:Asg) (ds:List Dyn) (as':Asg),blksMt m l j as=some (ds,as') ->
  Sub as as'/\∀ asF,Sub as' asF->(∀ j τ,alook j asF=some (some τ)->g'.dom j/\g'.loc j=g.loc τ)->(∀ j τ,alook j asF=some (some τ)->g'.sub j=g.sub τ)->(∀ j,alook j asF=some none->g'.dom j/\(g'.loc j).sv=.slice none 0 0)->∀ rest,
   (Y2q l j (ds++rest)).2=rest/\∀ i,BOK g' w ok' i (mget i (Y2q l j (ds++rest)).1)/\(mget i (Y2q l j (ds++rest)).1=.gone \/ (j <= i/\i < j+l.length)) /\
    ((mget i (Y2q l j (ds++rest)).1).live=true->(∃ τ,alook i asF=some (some τ)/\(mget τ m).live=true) \/ alook i asF=some none) /\
    ∀ c,(mget i (Y2q l j (ds++rest)).1).has c=true->∃ τ,alook i asF=some (some τ)/\(mget τ m).has c=true
 | [],j,as,ds,as',h=>by
  cases h;exact ⟨Sub.refl _,fun asF _ _ _ _ rest=>⟨rfl,fun i=>⟨trivial,.inl rfl,fun hl=>(by cases hl),fun _ hl=>(by cases hl)⟩⟩⟩
 | b :: l,j,as,ds,as',h=>by
  simp only[blksMt] at h;split at h
  ·rename_i τ hτ;split at h
   ·rename_i d1 as1 h1;split at h
    ·rename_i d2 as2 h2;cases h;obtain ⟨s1,k1⟩:=bmt_ok (g':=g') (j:=j) hf hH hrt b as d1 as1 h1;obtain ⟨s2,k2⟩:=Y2u hf hH hrt l (j+1) as1 d2 as' h2;refine ⟨s1.trans s2,fun asF hF hA hS hN rest=>?_⟩;have hj:=hF _ _ (s2 _ _ (s1 _ _ hτ));obtain ⟨q1,q2,q3,q4⟩:=k1 asF (s2.trans hF) hA hN (hA j τ hj).2 (hS j τ hj) (d2++rest);obtain ⟨r1,r2⟩:=k2 asF hF hA hS hN rest;simp only[Y2q,la9,q1,r1];refine ⟨trivial,fun i=>?_⟩;rw[Ybs];split
     ·rename_i e; subst e;exact ⟨q2,.inr ⟨Nat.le_refl _,by simp⟩,fun hl=>.inl ⟨τ,hj,q3 hl⟩,fun c hc=>⟨τ,hj,q4 c hc⟩⟩
     ·obtain ⟨r3,r4,r5⟩:=r2 i;exact ⟨r3,r4.imp id fun ⟨a1,a2⟩=>⟨by omega,by simp; omega⟩,r5⟩
    ·cases h
   ·cases h
  ·rename_i hτ;split at h
   ·rename_i d1 h1;split at h
    ·rename_i d2 as2 h2;cases h;obtain ⟨s2,k2⟩:=Y2u hf hH hrt l (j+1) as d2 as' h2;refine ⟨s2,fun asF hF hA hS hN rest=>?_⟩;have hj:=hF _ _ (s2 _ _ hτ);cases b with
     | row t =>
      cases h1;obtain ⟨r1,r2⟩:=k2 asF hF hA hS hN rest;simp only[Y2q,la9,List.cons_append,List.nil_append,BPat.fill,r1];refine ⟨trivial,fun i=>?_⟩;rw[Ybs];split
      ·rename_i e; subst e;obtain ⟨n1,n2,n3⟩:=sv_nil (hN j hj).2;refine ⟨?_,.inr ⟨Nat.le_refl _,by simp⟩,fun _=>.inr hj,fun _ h=>(by cases h)⟩;show BOK g' w ok' j (.row t []);exact ⟨n2.symm,by omega,.inl ⟨n1,n3⟩⟩
      ·obtain ⟨r3,r4,r5⟩:=r2 i;exact ⟨r3,r4.imp id fun ⟨a1,a2⟩=>⟨by omega,by simp; omega⟩,r5⟩
     | _=>cases h1
    ·cases h
   ·cases h
  ·cases h
theorem Yd1 {τ:Nat}:∀ (as:Asg),notIn τ as=true->∀ j,alook j as ≠ some (some τ)
 | [],_,j=>by simp[alook]
 | (i,some σ) :: l,h,j=>by
  simp only[notIn,ba9,Bool.not_eq_true'] at h;rw[Y1k];split
  ·intro e; cases e; rw[Nat.beq_refl] at h; cases h.1
  ·exact Yd1 l h.2 j
 | (i,none) :: l,h,j=>by
  rw[Y1k];split
  ·intro e; cases e
  ·exact Yd1 l h j
theorem Y1r:∀ (as:Asg),apart as=true->∀ j j' τ,alook j as=some (some τ)->alook j' as=some (some τ)->j=j'
 | [],_,j,j',τ,h,_=>by cases h
 | (i,some σ) :: l,h,j,j',τ,h1,h2=>by
  simp only[apart,ba9] at h;rw[Y1k] at h1 h2;split at h1
  ·split at h2
   ·omega
   ·cases h1; exact absurd h2 (Yd1 l h.1 j')
  ·split at h2
   ·cases h2; exact absurd h1 (Yd1 l h.1 j)
   ·exact Y1r l h.2 j j' τ h1 h2
 | (i,none) :: l,h,j,j',τ,h1,h2=>by
  rw[Y1k] at h1 h2;split at h1
  ·cases h1
  ·split at h2
   ·cases h2
   ·exact Y1r l h j j' τ h1 h2
theorem Y2d {n:Nat}:∀ (as:Asg),below n as=true->∀ j o,alook j as=some o->j < n
 | [],_,j,o,h=>by cases h
 | (i,v) :: l,h,j,o,h1=>by
  simp only[below,ba9] at h;rw[Y1k] at h1;split at h1
  ·rename_i e; subst e; simpa using h.1
  ·exact Y2d l h.2 j o h1
theorem Yej:∀ (n j:Nat),j < n->alook j (pinAs n)=some (some j)
 | 0,j,h=>absurd h (Nat.not_lt_zero _)
 | n+1,j,h=>by
  show alook j ((n,some n) :: pinAs n)=_;rw[Y1k];split
  ·rename_i e; rw[e]
  ·exact Yej n j (by omega)
def asgG (g:G) (as:Asg) (n:Nat):G:=⟨fun j=>match alook j as with
 | some (some τ)=>g.loc τ
 | _=>⟨0,0,0,0,true⟩,n,fun j=>j < n,g.rt,fun j=>match alook j as with
 | some (some τ)=>g.sub τ
 | _=>fun _=>⟨0,0,0,0,true⟩⟩
theorem Y22 {g:G} {as:Asg} {n j τ:Nat} (h:alook j as=some (some τ)):(asgG g as n).loc j=g.loc τ:=by
 show (match alook j as with | some (some τ)=>g.loc τ | _=>_)=_; rw[h]
theorem Y23 {g:G} {as:Asg} {n j τ:Nat} (h:alook j as=some (some τ)):(asgG g as n).sub j=g.sub τ:=by
 show (match alook j as with | some (some τ)=>g.sub τ | _=>_)=_; rw[h]
theorem Y21 {g:G} {as:Asg} {n j:Nat} (h:alook j as=some none):(asgG g as n).loc j=⟨0,0,0,0,true⟩:=by
 show (match alook j as with | some (some τ)=>g.loc τ | _=>_)=_; rw[h]
structure Taken (g:G) (X:Nat->Prop) (m:Mem) (w:World) (X':Nat->Prop) (sh:Shape) (x:HL sh.ts) (as:Asg):Prop where
 inv:Inv (asgG g as sh.bl.length) X' (sh.mem x) w
 pins:∀ j,j < sh.pin->alook j as=some (some j)
 asg:∀ j o,alook j as=some o->j < sh.bl.length
 inj:∀ j j' τ,alook j as=some (some τ)->alook j' as=some (some τ)->j=j'
 own:∀ i,Lv (asgG g as sh.bl.length) (sh.mem x) i->∃ τ,alook i as=some (some τ)/\Lv g m τ
 sbs:∀ i c,Sb (asgG g as sh.bl.length) (sh.mem x) i c->∃ τ,alook i as=some (some τ)/\Sb g m τ c
 all:∀ j,j < sh.bl.length->∃ o,alook j as=some o
 holds:Holds w (okB X g m) w (okB X' (asgG g as sh.bl.length) (sh.mem x))
theorem Y2r {m:Mem}:∀ (l:List BPat) (j:Nat) (as:Asg) (ds:List Dyn) (as':Asg),blksMt m l j as=some (ds,as')->(∀ i,j <= i->i < j+l.length->∃ o,alook i as'=some o)/\Sub as as'
 | [],j,as,ds,as',h=>by cases h; exact ⟨fun i h1 h2=>by simp at h2; omega,Sub.refl _⟩
 | b :: l,j,as,ds,as',h=>by
  have bsub:∀ {τ:Nat} {d1:List Dyn} {as1:Asg},b.mt m (mget τ m) as=some (d1,as1)->Sub as as1:=by
   intro τ d1 as1 h1;exact bmt_sub h1
  simp only[blksMt] at h;split at h
  ·rename_i τ hτ;split at h
   ·rename_i d1 as1 h1;split at h
    ·rename_i d2 as2 h2;cases h;obtain ⟨k1,k2⟩:=Y2r l (j+1) as1 d2 as' h2;have hs:=bsub h1;refine ⟨fun i q1 q2=>?_,hs.trans k2⟩;by_cases e:i=j
     ·subst e; exact ⟨_,k2 _ _ (hs _ _ hτ)⟩
     ·exact k1 i (by omega) (by simp at q2; omega)
    ·cases h
   ·cases h
  ·rename_i hτ;split at h
   ·rename_i d1 h1;split at h
    ·rename_i d2 as2 h2;cases h;obtain ⟨k1,k2⟩:=Y2r l (j+1) as d2 as' h2;refine ⟨fun i q1 q2=>?_,k2⟩;by_cases e:i=j
     ·subst e; exact ⟨_,k2 _ _ hτ⟩
     ·exact k1 i (by omega) (by simp at q2; omega)
    ·cases h
   ·cases h
  ·cases h
where
 mt_sub {m:Mem}:∀ {p:Pat} {v:AV} {as:Asg} {ds:List Dyn} {as':Asg},p.mt m v as=some (ds,as')->Sub as as'
 | .hole t,v,as,ds,as',h=>by simp only[Pat.mt] at h; split at h <;> cases h; exact Sub.refl _
 | .hpv t,v,as,ds,as',h=>by
  cases v <;> first | (cases h; done) | skip
  simp only[Pat.mt] at h; split at h <;> cases h; exact Sub.refl _
 | .pr a b,v,as,ds,as',h=>by
  simp only[Pat.mt] at h;split at h
  ·split at h
   ·rename_i h1;split at h
    ·rename_i h2; cases h; exact (mt_sub h1).trans (mt_sub h2)
    ·cases h
   ·cases h
  ·cases h
 | .one a,v,as,ds,as',h=>by
  simp only[Pat.mt] at h;split at h
  ·exact mt_sub h
  ·cases h
 | .nl,v,as,ds,as',h=>by cases v <;> cases h; exact Sub.refl _
 | .sl j,v,as,ds,as',h=>by
  cases v <;> first | (cases h; done) | exact (Y26 (Ycz h).2).1
 | .ptr j p,v,as,ds,as',h=>by
  cases v <;> first | (cases h; done) | skip
  simp only[Pat.mt] at h;exact (Y26 (Y5q h).2).1
 | .va j p n sz,v,as,ds,as',h=>by
  cases v <;> first | (cases h; done) | skip
  simp only[Pat.mt] at h;exact (Y26 (Y5q (Y2j h).2).2).1
 | .nilp,v,as,ds,as',h=>by cases v <;> cases h; exact Sub.refl _
 | .mp j,v,as,ds,as',h=>by
  cases v <;> first | (cases h; done) | exact (Y26 (Ycz h).2).1
 | .nilm,v,as,ds,as',h=>by cases v <;> cases h; exact Sub.refl _
 | .fn f a b,v,as,ds,as',h=>by
  cases v <;> first | (cases h; done) | skip
  simp only[Pat.mt] at h;have h:=(Y2j h).2;split at h
  ·rename_i h1;split at h
   ·rename_i h2; cases h; exact (mt_sub h1).trans (mt_sub h2)
   ·cases h
  ·cases h
 | .nilf,v,as,ds,as',h=>by cases v <;> cases h; exact Sub.refl _
 | .nili,v,as,ds,as',h=>by cases v <;> cases h; exact Sub.refl _
 | .yl j,v,as,ds,as',h=>by
  cases v <;> first | (cases h; done) | exact (Y26 (Ycz h).2).1
 | .ifc t a,v,as,ds,as',h=>by
  cases v <;> first | (cases h; done) | skip
  simp only[Pat.mt] at h;exact mt_sub (Y2j h).2
 | .nil,v,as,ds,as',h=>by cases v <;> cases h; exact Sub.refl _
 | .cons a b,v,as,ds,as',h=>by
  cases v <;> first | (cases h; done) | skip
  simp only[Pat.mt] at h;split at h
  ·rename_i h1;split at h
   ·rename_i h2; cases h; exact (mt_sub h1).trans (mt_sub h2)
   ·cases h
  ·cases h
 | .dead,v,as,ds,as',h=>by
  simp only[Pat.mt] at h;have h:=(Y2j h).2;cases h; exact Sub.refl _
 bmt_sub {m:Mem} {b:BPat} {B:Blk} {as:Asg} {ds:List Dyn} {as':Asg} (h:b.mt m B as=some (ds,as')):Sub as as':=by
  cases b with
  | var p =>
   cases B <;> first | (cases h; done) | skip
   simp only[BPat.mt] at h;exact mt_sub (Y2j h).2
  | row t =>
   cases B <;> first | (cases h; done) | skip
   simp only[BPat.mt] at h; split at h <;> cases h; exact Sub.refl _
  | frz t =>
   cases B <;> first | (cases h; done) | skip
   simp only[BPat.mt] at h; split at h <;> cases h; exact Sub.refl _
  | mp kt vt =>
   cases B <;> first | (cases h; done) | skip
   simp only[BPat.mt] at h; split at h <;> cases h; exact Sub.refl _
  | lp id sl p =>
   cases B <;> first | (cases h; done) | skip
   simp only[BPat.mt] at h;exact mt_sub (Y2j h).2
  | lpt id sl p =>
   cases B <;> first | (cases h; done) | skip
   simp only[BPat.mt] at h;have h:=(Y2j h).2;split at h
   ·rename_i h1; cases h; exact mt_sub h1
   ·cases h
  | fm ks p =>
   cases B <;> first | (cases h; done) | skip
   simp only[BPat.mt] at h;exact mt_sub (Y2j h).2
  | mo kt t =>
   cases B <;> first | (cases h; done) | skip
   rename_i k' t' l hh;cases hh with
   | some q=>cases h
   | none=>simp only[BPat.mt] at h; split at h <;> cases h; exact Sub.refl _
  | gone=>cases h; exact Sub.refl _
theorem Y87 {g:G} {X:Nat->Prop} {fr:Fr} {m:Mem} {tmps:Array Value} {w:World} (sh:Shape) {x:HL sh.ts} {as:Asg} (h:sh.get1 fr m=some (x,as)) (hI:Inv g X m w) (hfr:FrOK g w (okB X g m) fr tmps)
  (X':Nat->Prop) (hX:∀ b,X b->X' b) (hX':∀ b,X' b->X b \/ ∃ τ,(∀ j,alook j as ≠ some (some τ))/\OwnT g m τ b) :
  Taken g X m w X' sh x as/\FrOK (asgG g as sh.bl.length) w (okB X' (asgG g as sh.bl.length) (sh.mem x)) (sh.fr x) tmps:=by
 unfold Shape.get1 at h;split at h
 ·rename_i d1 as1 h1;split at h
  ·rename_i d2 as2 h2;obtain ⟨hb,h⟩:=Y2j h;rw[ba9] at hb;split at h
   ·rename_i x' hx;cases h;have hds:=dyn_hl _ _ _ hx
    let g':=asgG g as sh.bl.length
    have hA:∀ j τ,alook j as=some (some τ)->g'.dom j/\g'.loc j=g.loc τ:=fun j τ e=>⟨Y2d _ hb.2 j _ e,Y22 e⟩
    have hS:∀ j τ,alook j as=some (some τ)->g'.sub j=g.sub τ:=fun j τ e=>Y23 e
    have hN:∀ j,alook j as=some none->g'.dom j/\(g'.loc j).sv=.slice none 0 0:=fun j e=>⟨Y2d _ hb.2 j _ e,by
     have:g'.loc j=⟨0,0,0,0,true⟩:=Y21 e;rw[this]; rfl⟩
    -- the memory of the shape,first told over anything
    obtain ⟨sb,kb⟩:=Y2u (g':=g') (w:=w) (ok:=okB X g m) (ok':=okB X g m) (fun τ=>hI.ok τ) (fun b hb _=>⟨hb,rfl⟩) rfl sh.bl 0 as1 d2 as h2;obtain ⟨r1,r2⟩:=kb as (Sub.refl _) hA hS hN [];obtain ⟨ss0,ks0⟩:=Yin (g':=g') (w:=w) (ok:=okB X g m) (ok':=okB X g m) (fun τ=>hI.ok τ) (fun b hb _=>⟨hb,rfl⟩) hfr sh.sl _ d1 as1 h1
    have hmem:sh.mem x=(Y2q sh.bl 0 (d2++[])).1:=by
     unfold Shape.mem;rw[hds];obtain ⟨q1,_⟩:=ks0 as sb hA hN d2;rw[q1,List.append_nil]
    have hlv:∀ i,Lv g' (sh.mem x) i->∃ τ,alook i as=some (some τ)/\Lv g m τ:=by
     intro i ⟨l1,l2⟩;rw[hmem] at l1;rcases (r2 i).2.2.1 l1 with ⟨τ,e1,e2⟩ | e
     ·exact ⟨τ,e1,e2,by rw[(hA i τ e1).2] at l2; exact l2⟩
     ·have:=(sv_nil (hN i e).2).1; rw[this] at l2; cases l2
    have hsb:∀ i c,Sb g' (sh.mem x) i c->∃ τ,alook i as=some (some τ)/\Sb g m τ c:=by
     intro i c ⟨l1,l2⟩;rw[hmem] at l1;obtain ⟨τ,e1,e2⟩:=(r2 i).2.2.2 c l1;exact ⟨τ,e1,e2,by rw[hS i τ e1] at l2; exact l2⟩
    have hown:∀ b,Own g' (sh.mem x) b->Own g m b:=by
     rintro b (⟨i,l1,l2⟩ | ⟨i,c,l1,l2⟩)
     ·obtain ⟨τ,e1,e2⟩:=hlv i l1;exact e2.own (by rw[<- (hA i τ e1).2]; exact l2)
     ·obtain ⟨τ,e1,e2⟩:=hsb i c l1;exact .inr ⟨τ,c,e2,by rw[<- hS i τ e1]; exact l2⟩
    have hH:Holds w (okB X g m) w (okB X' g' (sh.mem x)):=fun b hb _=>⟨⟨fun h=>(hX' b h).elim hb.1 (fun ⟨τ,_,q1⟩=>hb.2 q1.own),fun h=>hb.2 (hown b h)⟩,rfl⟩
    obtain ⟨ss,ks⟩:=Yin (g':=g') (w:=w) (ok:=okB X g m) (ok':=okB X' g' (sh.mem x)) (fun τ=>hI.ok τ) hH hfr sh.sl _ d1 as1 h1;obtain ⟨q1,q2⟩:=ks as sb hA hN d2;obtain ⟨sb2,kb2⟩:=Y2u (g':=g') (w:=w) (ok:=okB X g m) (ok':=okB X' g' (sh.mem x)) (fun τ=>hI.ok τ) hH rfl sh.bl 0 as1 d2 as h2;obtain ⟨u1,u2⟩:=kb2 as (Sub.refl _) hA hS hN [];have hinj:=Y1r _ hb.1;refine ⟨⟨⟨fun τ=>?_,fun i i' l1 l2 e=>?_,fun i l1 h3=>?_,fun b h3=>?_,fun i hi=>?_,fun i hi=>hi,fun i c k=>?_⟩,fun j hj=>sb _ _ (ss0 _ _ (Yej _ j hj)),Y2d _ hb.2,hinj,hlv,hsb,fun j hj=>(Y2r sh.bl 0 as1 d2 as h2).1 j (Nat.zero_le _) (by omega),hH⟩,?_⟩
    ·have:=(u2 τ).1; rw[<- hmem] at this; exact this
    ·obtain ⟨τ,e1,e2⟩:=hlv i l1;obtain ⟨τ',e1',e2'⟩:=hlv i' l2;have e:(g'.loc i).blk=(g'.loc i').blk:=e;rw[(hA i τ e1).2,(hA i' τ' e1').2] at e;have:=hI.inj τ τ' e2 e2' e;subst this;exact hinj i i' τ e1 e1'
    ·obtain ⟨τ,e1,e2⟩:=hlv i l1;have h3:X' (g'.loc i).blk:=h3;rw[(hA i τ e1).2] at h3;rcases hX' _ h3 with h4 | ⟨σ,p1,p2⟩
     ·exact hI.far τ e2 h4
     ·have:=hI.uniq p2 (.inl ⟨e2,rfl⟩);subst this;exact p1 i e1
    ·rcases hX' _ h3 with h4 | ⟨σ,p1,p2⟩
     ·exact hI.xlt b h4
     ·exact hI.ownlt p2.own
    ·have:=(u2 i).2.1;rw[<- hmem] at this;rcases this with h | ⟨_,h⟩
     ·exact h
     ·exact absurd (show i < sh.bl.length by omega) hi
    ·obtain ⟨τ,e1,e2⟩:=hsb i c k;obtain ⟨k1,k2,k3,k4⟩:=hI.sb τ c e2;rw[show (asgG g as sh.bl.length).sub i=g.sub τ from hS i τ e1];refine ⟨k1,fun h3=>?_,fun σ hσ e=>?_,fun i' c' k' e=>?_⟩
     ·rcases hX' _ h3 with h4 | ⟨σ,p1,p2⟩
      ·exact k2 h4
      ·have:=hI.uniq p2 (.inr ⟨c,e2,rfl⟩);subst this;exact p1 i e1
     ·obtain ⟨τ',e1',e2'⟩:=hlv σ hσ;have e:(g'.loc σ).blk=(g.sub τ c).blk:=e;rw[(hA σ τ' e1').2] at e;exact k3 τ' e2' e
     ·obtain ⟨τ',e1',e2'⟩:=hsb i' c' k';rw[show (asgG g as sh.bl.length).sub i'=g.sub τ' from hS i' τ' e1'] at e;obtain ⟨r3,r4⟩:=k4 τ' c' e2' e;subst r3;exact ⟨hinj i' i τ' e1' e1,r4⟩
    ·have hfrx:sh.fr x=(Yih sh.sl (d1++d2)).1:=by unfold Shape.fr; rw[hds]
     rw[hfrx]; exact q2
   ·cases h
  ·cases h
 ·cases h
theorem get_st {g:G} {X:Nat->Prop} {E:Env} {fr:Fr} {m:Mem} {a:Act} {w:World} (sh:Shape) {x:HL sh.ts} (h:sh.get fr m=some x) (hst:StOK g X E fr m a w) (hp:sh.pin=E.pin) :
  ∃ g',g'.n=sh.bl.length/\StOK g' X E (sh.fr x) (sh.mem x) a w/\Ext0 E.pin g m w g' (sh.mem x) w:=by
 unfold Shape.get at h;split at h
 ·rename_i y as hy;cases h;unfold Shape.getA at hy;obtain ⟨hI1,hx1⟩:=Inv.frzL (sh.fzs fr m) hst.inv;obtain ⟨hT,hfr⟩:=Y87 sh hy hI1 (FrOK.mono hx1.gx (hx1.holds (X:=X)) hst.fr) X (fun _ h=>h) (fun _ h=>.inl h)
  have hxx:Ext0 E.pin g (frzL (sh.fzs fr m) m) w (asgG g as sh.bl.length) (sh.mem x) w:=by
   refine ⟨rfl,fun j hj _=>?_,Nat.le_refl _,fun b _ _=>rfl,fun b hb=>.inl ?_,rfl,rfl,rfl⟩
   ·have:=hT.pins j (by rw[hp]; exact hj);exact ⟨hT.asg _ _ this,Y22 this⟩
   ·rcases hb with ⟨i,l1,l2⟩ | ⟨i,c,l1,l2⟩
    ·obtain ⟨τ,e1,e2⟩:=hT.own i l1;exact e2.own (by rw[<- Y22 e1 (n:=sh.bl.length)]; exact l2)
    ·obtain ⟨τ,e1,e2⟩:=hT.sbs i c l1;exact .inr ⟨τ,c,e2,by rw[<- Y23 e1 (n:=sh.bl.length)]; exact l2⟩
  refine ⟨asgG g as sh.bl.length,rfl,⟨hT.inv,hfr,hst.size,?_,hst.rt,hst.b0⟩,hx1.to0.trans hxx⟩;exact hst.defers.mono ((hx1.to0.trans hxx).stays)
 ·cases h
def back1 (τ:Nat) (m:Mem):Mem:=match mget τ m with
 | .mo kt t l (some (σ,i))=>match rowAt m t σ with
  | some xs=>(τ,.mo kt t (mset l i xs) none) :: (σ,.gone) :: m
  | none=>m
 | _=>m
def backs:Mem->Mem->Mem
 | [],m=>m
 | (τ,.mo _ _ _ (some _)) :: l,m=>backs l (back1 τ m)
 | _ :: l,m=>backs l m
theorem Y28 {g:G} {X:Nat->Prop} {m:Mem} {w:World} (hI:Inv g X m w) (τ:Nat):∃ g1,Inv g1 X (back1 τ m) w/\Ext g m w g1 (back1 τ m) w/\g1.n=g.n:=by
 unfold back1;split
 ·rename_i kt t l σ i hm;split
  ·rename_i xs hr;have hs:=Yg5 hr;have hB:=hI.ok τ;rw[hm] at hB;obtain ⟨b1,es,b2,b3,b4,b5⟩:=hB;obtain ⟨c1,c2,c3⟩:=b5 σ i rfl;obtain ⟨k1,k2,k3⟩:=moset l i xs l[i] (by simp[c1]);have hie:i < es.size:=by omega
   obtain ⟨q1,q2,_⟩:=b4 i es[i] l[i] (by simp[hie]) (by simp[c1]);obtain ⟨r1,r2⟩:=mo_in (w':=w) hI hm hs (i:=i) (e0:=es[i]) (fun a b e=>by cases e; rfl) b2 ⟨k1,k2⟩ ⟨by simp[hie],fun _ _=>rfl⟩ (by rw[k3]; exact b3) q1 q2 (c3 _ (by simp[hie])) rfl (fun _ _=>rfl) b2 rfl rfl rfl;exact ⟨_,r1,r2,rfl⟩
  ·exact ⟨g,hI,Ext.refl _ _ _,rfl⟩
 ·exact ⟨g,hI,Ext.refl _ _ _,rfl⟩
theorem Y29 {X:Nat->Prop} {w:World}:∀ (l:Mem) {g:G} {m:Mem},Inv g X m w->∃ g1,Inv g1 X (backs l m) w/\Ext g m w g1 (backs l m) w/\g1.n=g.n
 | [],g,m,hI=>⟨g,hI,Ext.refl _ _ _,rfl⟩
 | (τ,B) :: l,g,m,hI=>by
  unfold backs;split
  ·rename_i e; cases e
  ·obtain ⟨g1,h1,h2,h3⟩:=Y28 hI τ;rename_i l0 m0 τ0 kt t l1 q e;cases e;obtain ⟨g2,h4,h5,h6⟩:=Y29 l h1;exact ⟨g2,h4,h2.trans h5,h6.trans h3⟩
  ·rename_i e;cases e;exact Y29 l hI
def Shape.getB (sh:Shape) (fr:Fr) (m:Mem):Option (HL sh.ts):=sh.get fr (backs m m)
theorem Y7x {g:G} {X:Nat->Prop} {E:Env} {fr:Fr} {m:Mem} {a:Act} {w:World} (sh:Shape) {x:HL sh.ts} (h:sh.getB fr m=some x) (hst:StOK g X E fr m a w) (hp:sh.pin=E.pin) :
  ∃ g',g'.n=sh.bl.length/\StOK g' X E (sh.fr x) (sh.mem x) a w/\Ext0 E.pin g m w g' (sh.mem x) w:=by
 obtain ⟨g1,h1,h2,h3⟩:=Y29 m hst.inv;obtain ⟨g2,k1,k2,k3⟩:=get_st sh h (hst.ext h2 h1) hp;exact ⟨g2,k1,k2,h2.to0.trans k3⟩
end Go.Proofs.YtifbgkikkiallaaGreat.VX

