import Derived.Test.YtifbgkikkiallaaGreatEdgesRunE2
import Derived.RangeFuncRecord
import Derived.Laws.CopyRow
import Derived.Laws.Tables
set_option linter.unusedVariables false
set_option linter.unusedSimpArgs false
namespace Go.Proofs.YtifbgkikkiallaaGreat.VX
def isAggD:TypeDesc->Bool
 | .struct _ | .array _ _=>true
 | _=>false
structure TIok (P:Program) (t:TypeId) (i:TI):Prop where
 desc:∃ d,P.underlying t=some d/\isAggD d=i.agg
 info:∃ f z,P.info? t=some f/\f.size=i.size/\f.zero=some z/\i.zero.sto=true/\z.cells.size=i.size/\∀ g w ok,RV g w ok i.zero z
 build:0 < i.flds.length->∃ f z place,P.info? t=some f/\f.zero=some z/\(∀ parts,P.built t parts=Instr.fill place z.cells parts) /\
  ∀ k,k < i.flds.length->place k=some ((getAt Sel.inn i.flds k).off,getAt 0 i.fsz k)/\∀ n,(getAt Sel.inn i.flds k).ok n
 struct:i.kind=1->∃ fs:Array Field,P.underlying t=some (.struct fs)/\∀ k,k < i.flds.length->∃ f fi d,fs[k]?=some f/\f.offset=(getAt Sel.inn i.flds k).off/\P.info? f.type=some fi /\
  fi.size=getAt 0 i.fsz k/\fi.size ≠ 0/\P.underlying f.type=some d/\isAggD d=getAt false i.fag k/\∀ n,(getAt Sel.inn i.flds k).ok n
 slice:i.kind=2->∃ e fi ez,P.underlying t=some (.slice e)/\P.info? e=some fi/\fi.size=i.ety.size/\fi.bytes=i.bytes/\fi.zero=some ez/\(∀ w ok,Rd w ok i.ety i.ety.zero ez.cells.toList)/\0 < i.ety.size/\0 < i.bytes
 array:i.kind=3 \/ i.kind=4->∃ e fi d,P.underlying t=some (.array i.alen e)/\P.info? e=some fi/\fi.size=i.esz/\(P.underlying e=some d/\isAggD d=getAt false i.fag 0 /\
  ∀ j,j < i.flds.length->(getAt Sel.inn i.flds j).off=j * i.esz/\∀ n,(getAt Sel.inn i.flds j).ok n)
 str:i.kind=5->P.underlying t=some .string
 map:i.kind=6->∃ kt vt,P.underlying t=some (.map kt vt)/\(i.mky=true->KeyOK P kt i.kty/\∃ fi ez,P.info? vt=some fi/\fi.zero=some ez/\∀ g w ok,RV g w ok (.d i.ety i.ety.zero) ez) /\
  (i.fmk=true->KeyOK P kt (.int .i64)/\∃ fi ez,P.info? vt=some fi/\fi.zero=some ez/\∀ g w ok,RV g w ok .nilf ez) /\
  (i.mok=true->KeyOK P kt i.kty/\∃ fi ez,P.info? vt=some fi/\fi.zero=some ez/\∀ g w ok,RV g w ok .nl ez)
 notI:i.notI=true->∃ d,P.underlying t=some d/\∀ ms,d ≠ .interface ms
 ptra:i.kind=7->∃ ar e,P.underlying t=some (.pointer ar)/\P.underlying ar=some (.array i.alen e)
 eq:i.eqk=true->P.eqGuardType P.depth t=false/\∀ g w ok x y cx cy,RV g w ok (.d i.ty x) cx->RV g w ok (.d i.ty y) cy->(Op.equal t cx cy).run P w=.ok (i.ty.beq x y) w
 num:∀ kd,i.kind=8->i.ty=.int kd->P.underlying t=some (.int kd)
section
variable {P:Program} {t:TypeId} {i:TI}
theorem Yh0 (h:TIok P t i) (w:World):(isAgg t).run P w=.ok i.agg w:=by
 obtain ⟨d,h1,h2⟩:=h.desc;unfold isAgg;rw[Sem.run_bind,run_underlying h1 w];cases d <;> simp_all[isAggD]
theorem Yh3 (h:TIok P t i) (w:World):(sizeOf t).run P w=.ok i.size w:=by
 obtain ⟨f,z,h1,h2,_⟩:=h.info;simp[sizeOf,typeInfo,h1,h2]
theorem add_eq (b o j:Nat):(⟨b,o,none⟩:Addr).add j=⟨b,o+j,none⟩:=by unfold Addr.add; split <;> simp_all
theorem Yhb {w:World} {ok:Nat->Prop} {ad:Addr} {cs:List Value} (h:Seg w ok ad cs):∃ b o,ad=⟨b,o,none⟩/\∀ j v,cs[j]?=some v->w.cell? ⟨b,o+j,none⟩=some v:=by
 obtain ⟨h1,_,c,e,fr,h3,h4⟩:=h;obtain ⟨b,o,s⟩:=ad;cases h1;exact ⟨b,o,rfl,fun j v hv=>by simp[World.cell?,h3]; exact h4 j v hv⟩
theorem Yh1 (h:TIok P t i) (w:World) (b o:Nat) (cs:List Value) (hl:cs.length=i.size) (ha:i.agg=false->∃ v,cs=[v]) (hc:∀ j v,cs[j]?=some v->w.cell? ⟨b,o+j,none⟩=some v) :
  ∃ v,(loadVar t ⟨b,o,none⟩).run P w=.ok v w/\(i.agg=true->v=.agg cs.toArray)/\(i.agg=false->cs=[v]):=by
 unfold loadVar;rw[Sem.run_bind,Yh0 h w];cases hg:i.agg with
 | true =>
  have h1:=run_loadCells_list (P:=P) w ⟨b,o,none⟩ cs (fun j v hv=>by rw[add_eq]; exact hc j v hv);rw[hl] at h1;exact ⟨.agg cs.toArray,by simp[Yh3 h,h1],fun _=>rfl,by simp⟩
 | false =>
  obtain ⟨v,rfl⟩:=ha hg;have h1:=hc 0 v rfl;exact ⟨v,by simp at h1; simp[h1],by simp,fun _=>rfl⟩
end
def FrOK (g:G) (w:World) (ok:Nat->Prop) (fr:Fr) (tmps:Array Value):Prop:=∀ t,RV g w ok (fget t fr) (tmps.getD t undef)
structure Env where
 nt:Nat
 pin:Nat
 b0:Nat
 rd:Option Nat
 rt:Nat->Option RT
def DfOK (b0:Nat) (w:World) (ok:Nat->Prop):List Deferred->Prop
 | []=>True
 | d :: ds=>(∃ D,d={ target:=.collected D,args:=#[] }/\b0 <= D/\ok D/\w.heap[D]?=some (.deferred (some []))/\∀ d' ∈ ds,d'.target ≠ .collected D)/\DfOK b0 w ok ds
theorem DfOK.mono {b0:Nat} {w w':World} {ok ok':Nat->Prop} (h:∀ D,ok D->w.heap[D]?=some (.deferred (some []))->ok' D/\w'.heap[D]?=w.heap[D]?):∀ {ds:List Deferred},DfOK b0 w ok ds->DfOK b0 w' ok' ds
 | [],_=>trivial
 | d :: ds,⟨⟨D,h1,h2,h3,h4,h5⟩,h6⟩=>⟨⟨D,h1,h2,(h D h3 h4).1,(h D h3 h4).2.trans h4,h5⟩,DfOK.mono h h6⟩
theorem Ext0.stays {p:Nat} {g g':G} {X:Nat->Prop} {m m':Mem} {w w':World} (h:Ext0 p g m w g' m' w'):∀ D,okB X g m D->w.heap[D]?=some (.deferred (some []))->okB X g' m' D/\w'.heap[D]?=w.heap[D]?:=by
 rintro D ⟨h1,h2⟩ h3;have hlt:=Yb1 h3;exact ⟨⟨h1,fun h4=>(h.own D h4).elim h2 (by omega)⟩,h.keep D hlt h2⟩
theorem Ext.stays {g g':G} {X:Nat->Prop} {m m':Mem} {w w':World} (h:Ext g m w g' m' w'):∀ D,okB X g m D->w.heap[D]?=some (.deferred (some []))->okB X g' m' D/\w'.heap[D]?=w.heap[D]?:=(h.to0 (p:=0)).stays
structure StOK (g:G) (X:Nat->Prop) (E:Env) (fr:Fr) (m:Mem) (a:Act) (w:World):Prop where
 inv:Inv g X m w
 fr:FrOK g w (okB X g m) fr a.tmps
 size:a.tmps.size=E.nt
 defers:DfOK E.b0 w (okB X g m) a.defers
 rt:g.rt=E.rt
 b0:E.b0 <= w.heap.size
theorem Yr (g:G) (w:World) (ok:Nat->Prop) (v:Value):RV g w ok .dead v:=⟨fun h=>(by cases h),fun _=>⟨v,rfl⟩⟩
theorem FrOK.mono {g g':G} {w w':World} {ok ok':Nat->Prop} (hg:GExt g g') (h:Holds w ok w' ok') {fr:Fr} {tmps:Array Value} (hf:FrOK g w ok fr tmps):FrOK g' w' ok' fr tmps :=
 fun t=>Yt hg h (hf t)
theorem FrOK.set {g:G} {w:World} {ok:Nat->Prop} {fr:Fr} {tmps:Array Value} (hf:FrOK g w ok fr tmps) {d:Nat} (hd:d < tmps.size) {v:AV} {cv:Value} (hv:RV g w ok v cv) :
  FrOK g w ok ((d,v) :: fr) (tmps.setIfInBounds d cv):=by
 intro t;rw[Y6i];by_cases e:d=t
 ·subst e;rw[if_pos rfl];have:(tmps.setIfInBounds d cv).getD d undef=cv:=by simp[Array.getD,hd]
  rw[this]; exact hv
 ·rw[if_neg e]
  have:(tmps.setIfInBounds d cv).getD t undef=tmps.getD t undef:=by
   simp only[Array.getD_eq_getD_getElem?,Array.getElem?_setIfInBounds_ne e]
  rw[this]; exact hf t
theorem evc_ok (g:G) (w:World) (ok:Nat->Prop) (v:Value):RV g w ok (evc v) v:=by
 unfold evc
 split <;> first
  | exact Yr g w ok _
  | exact ⟨fun h=>(by cases h),fun _=>rfl⟩
  | exact ⟨fun h=>(by cases h),fun _=>⟨_,rfl,rfl⟩⟩
theorem ev_ok {g:G} {w:World} {ok:Nat->Prop} {fr:Fr} {a:Act} (hf:FrOK g w ok fr a.tmps) (x:Operand):RV g w ok (ev fr x) (a.eval x):=by
 cases x with
 | tmp t=>exact hf t
 | const v=>exact evc_ok g w ok v
 | global gl=>exact Yr g w ok _
 | func f=>exact ⟨fun h=>(by cases h),fun _=>⟨[],[],rfl,rfl,rfl⟩⟩
section
variable {P:Program} {X:Nat->Prop} {R:Type}
def FR (rd:Option Nat):Fence:={ Fence.wide with round:=rd }
theorem Yhj {rd:Option Nat} {ρ:Operand->Value} {o:Oper} {w w':World} {x:Next} (h:(execOp ρ o).run P w=.ok x w') (hx:∀ d,x ≠ .defer d):(o.semAt rd ρ).run P w=.ok x w':=by
 by_cases hd:∃ c,o.op=.defer c
 ·obtain ⟨c,hc⟩:=hd;unfold execOp at h;simp only[hc,Sem.run_bind] at h;cases hr:(resolve ρ c o.type).run P w with
  | ok d w2=>rw[hr] at h; simp only[Result.andThen_ok,Sem.run_pure,Result.ok.injEq] at h; exact absurd h.1.symm (hx d)
  | halt s w2=>rw[hr] at h; cases h
 ·rw[Oper.semAt_eq rd ρ o (fun c hc=>hd ⟨c,hc⟩)]; exact h
def OpR (P:Program) (X:Nat->Prop) (o:Oper) (a:Act) (w:World) (g:G) (m:Mem) (k kp:AV->Mem->Nat->Option R) (r:R):Prop :=
 ∀ (rd:Option Nat) (next:Act->World->Prop) (Q:Exit->Act->World->Prop),
  (∀ v m' g' cv w',k v m' g'.n=some r->Inv g' X m' w'->RV g' w' (okB X g' m') v cv->Ext g m w g' m' w'->next (a.put o.dst cv) w') ->
  (∀ v m' g' cv w',kp v m' g'.n=some r->Inv g' X m' w'->RV g' w' (okB X g' m') v cv->Ext g m w g' m' w'->Q (.panic [{ v:=cv,recovered:=false }]) a w') ->
  o.wpIn (FR rd) 0 P a w next Q
variable {o:Oper} {a:Act} {w:World} {g:G} {m:Mem} {k kp:AV->Mem->Nat->Option R} {r:R}
theorem OpR.value {v:AV} {m':Mem} {g':G} {cv:Value} {w':World} (hr:(execOp a.eval o).run P w=.ok (.value cv) w') (hk:k v m' g'.n=some r) (hI:Inv g' X m' w')
  (hv:RV g' w' (okB X g' m') v cv) (hx:Ext g m w g' m' w'):OpR P X o a w g m k kp r:=by
 intro rd next Q h1 _
 refine ⟨fun _ _=>trivial,?_⟩;rw[show (FR rd).round=rd from rfl,Yhj hr (fun d e=>by cases e)];exact h1 v m' g' cv w' hk hI hv hx
theorem OpR.skip {m':Mem} {g':G} {w':World} (hr:(execOp a.eval o).run P w=.ok .skip w') (hk:k .dead m' g'.n=some r) (hI:Inv g' X m' w')
  (hx:Ext g m w g' m' w'):OpR P X o a w g m k kp r:=by
 intro rd next Q h1 _
 refine ⟨fun _ _=>trivial,?_⟩;rw[show (FR rd).round=rd from rfl,Yhj hr (fun d e=>by cases e)];exact h1 .dead m' g' undef w' hk hI (Yr _ _ _ _) hx
theorem RV_one {ok:Nat->Prop} {v:AV} {cv:Value} (ha:v.isAgg=false) (h:RC g w ok v [cv]):RV g w ok v cv:=⟨fun h'=>(by rw[ha] at h'; cases h'),fun _=>h⟩
theorem Yet {ok:Nat->Prop} {τ:Nat} {p:Path} {cv:Value} (h:RV g w ok (.ptr τ p) cv):g.dom τ/\pathOK (g.loc τ).len p/\cv=.pointer (some ⟨(g.loc τ).blk,(g.loc τ).base+Path.off p,none⟩):=by
 obtain ⟨h1,h2,h3⟩:=h.2 rfl;exact ⟨h1,h2,by cases h3; rfl⟩
theorem Yu {ok:Nat->Prop} {i:TI} {v:AV} {cs:List Value} {cv:Value} (ha:v.isAgg=i.agg) (h1:i.agg=true->cv=.agg cs.toArray) (h2:i.agg=false->cs=[cv]) (h:RC g w ok v cs):RV g w ok v cv :=
 ⟨fun e=>⟨cs,h1 (ha ▸ e),h⟩,fun e=>by have:=h2 (ha ▸ e); subst this; exact h⟩
theorem Ya7 {i:TI} {v:AV} {cs:List Value} {ok:Nat->Prop} (ha:v.isAgg=i.agg) (h:RC g w ok v cs):i.agg=false->∃ u,cs=[u]:=by
 intro e;have h1:=RC_len v cs h
 have h2:v.size=1:=by
  rw[<- ha] at e;cases v with
  | d t x=>cases t <;> first | rfl | cases e
  | pr=>cases e
  | one=>cases e
  | _=>rfl
 rw[h2] at h1
 match cs,h1 with
 | [u],_=>exact ⟨u,rfl⟩
theorem Y2h {a b:Bool} (h:(a == b)=true):a=b:=by simpa using h
theorem Yab {t:TypeId} {i:TI} {x:Operand} (ho:o.op=.load t x) (hi:TIok P t i) (hI:Inv g X m w) {fr:Fr} (hf:FrOK g w (okB X g m) fr a.tmps)
  (h:loadA m (fun v=>bif Nat.beq v.size i.size && (v.isAgg == i.agg) then k v m g.n else none) (ev fr x)=some r):OpR P X o a w g m k kp r:=by
 have hx:=ev_ok hf x
 have fin:∀ (v:AV) (b off:Nat) (cs:List Value),a.eval x=.pointer (some ⟨b,off,none⟩)->(bif Nat.beq v.size i.size && (v.isAgg == i.agg) then k v m g.n else none)=some r->RC g w (okB X g m) v cs ->
   (∀ j u,cs[j]?=some u->w.cell? ⟨b,off+j,none⟩=some u)->OpR P X o a w g m k kp r:=by
  intro v b off cs he hk hv hc;cases hb:Nat.beq v.size i.size && (v.isAgg == i.agg) with
  | false=>rw[hb] at hk; cases hk
  | true =>
   rw[hb] at hk;rw[ba9] at hb;have hag:=Y2h hb.2;obtain ⟨cv,h1,h2,h3⟩:=Yh1 hi w b off cs (by rw[RC_len v cs hv]; exact eb9 hb.1) (Ya7 hag hv) hc;refine OpR.value (v:=v) (m':=m) (g':=g) (cv:=cv) (w':=w) ?_ hk hI (Yu hag h2 h3 hv) (Ext.refl _ _ _);unfold execOp;simp only[ho,Instr.loadAt,Instr.sureAddr,he,Sem.run_bind,Sem.run_pure,Result.andThen_ok,h1]
 cases hq:ev fr x with
 | ptr τ p =>
  rw[hq] at h hx;obtain ⟨h1,h2,h3⟩:=Yet hx;simp only[loadA] at h;have hB:=hI.ok τ;cases hm:mget τ m with
  | var v =>
   rw[hm] at h hB;simp only at h;obtain ⟨hb0,hs,hnn,c,e,hh,hv⟩:=hB;cases hgv:v.get p with
   | none=>rw[hgv] at h; cases h
   | some y =>
    rw[hgv] at h;obtain ⟨c0,c1,c2,e1,e2,e3⟩:=get_ok p v y hgv h2 _ hv;refine fin y _ _ c1 h3 h e3 (fun j u hu=>?_);simp only[World.cell?,hh,hb0,Nat.zero_add]
    have:c.toList[Path.off p+j]?=some u:=by
     rw[e1,<- e2,la9,List.getElem?_append_right (by omega),Nat.add_sub_cancel_left,List.getElem?_append_left (by have:=(List.getElem?_eq_some_iff.1 hu).1; exact this)];exact hu
    simpa using this
  | row t' xs =>
   rw[hm] at h hB;simp only at h;cases p with
   | nil=>cases h
   | cons s q =>
    cases s with
    | row j sz =>
     simp only at h;cases hb:Nat.beq sz t'.size with
     | false=>rw[hb] at h; cases h
     | true =>
      rw[hb] at h;simp only[cond_true] at h;have hsz:=eb9 hb;subst hsz;cases hgv:(AV.d t' (getAt t'.zero xs j)).get q with
      | none=>rw[hgv] at h; cases h
      | some y =>
       rw[hgv] at h;obtain ⟨b1,b2,b0⟩:=hB;have hj:j < xs.length:=by rw[b1]; exact h2 (.row j t'.size) (by simp)
       obtain ⟨b7,c,e,cells,b3,b4,b5,b6⟩:=b0.resolve_left (fun h=>by omega);have hR:=fun x cs h=>Rd_len w (okB X g m) t' x cs h
       have hat:=RdL_at hR xs cells b4 j t'.zero hj;obtain ⟨c0,c1,c2,e1,e2,e3⟩:=get_ok (g:=g) (n:=(g.loc τ).len) q (.d t' (getAt t'.zero xs j)) y hgv (fun s hs=>h2 s (by simp[hs])) _ hat;refine fin y _ _ c1 h3 h e3 (fun jj u hu=>?_);have hjl:jj < c1.length:=(List.getElem?_eq_some_iff.1 hu).1
       have k1:cells[j * t'.size+(Path.off q+jj)]?=some u:=by
        have k2:((cells.drop (j * t'.size)).take t'.size)[Path.off q+jj]?=some u:=by
         rw[e1,<- e2,la9,List.getElem?_append_right (by omega),Nat.add_sub_cancel_left,List.getElem?_append_left hjl];exact hu
        rw[List.getElem?_take] at k2;split at k2
        ·rw[List.getElem?_drop] at k2; exact k2
        ·cases k2
       have k3:=b5 _ _ k1;simp only[World.cell?,b3];simp only[Path.off,Sel.off];rw[show (g.loc τ).base+(j * t'.size+Path.off q)+jj=(g.loc τ).base+(j * t'.size+(Path.off q+jj)) by omega];simpa using k3
    | _=>cases h
  | _=>rw[hm] at h; cases h
 | pv t' y =>
  rw[hq] at h hx;obtain ⟨ad,cells,e1,e2,e3⟩:=hx.2 rfl;obtain ⟨b,off,rfl,hc⟩:=Yhb e3;refine fin (.d t' y) b off cells (List.cons.inj e1).1 h e2 hc
 | _=>rw[hq] at h; cases h
theorem Y7o (τ:Nat) (m:Mem) (σ:Nat) (h:(mget σ (frz1 τ m)).live=true):mget σ (frz1 τ m)=mget σ m:=by
 unfold frz1 at h ⊢;cases hm:mget τ m with
 | row t xs =>
  rw[hm] at h;simp only at h ⊢;rw[Ybs] at h ⊢;by_cases e:τ=σ
  ·rw[if_pos e] at h; cases h
  ·rw[if_neg e]
 | _=>rfl
theorem Y7q:∀ (l:List Nat) (m:Mem) (σ:Nat),(mget σ (frzL l m)).live=true->mget σ (frzL l m)=mget σ m
 | [],m,σ,h=>rfl
 | τ :: l,m,σ,h=>by
  have h1:=Y7q l (frz1 τ m) σ h;have h2:mget σ (frzL (τ :: l) m)=mget σ (frz1 τ m):=h1;rw[h2];exact Y7o τ m σ (by rw[<- h2]; exact h)
theorem Yby {a b:AV} (ha:a.sto=true) (hb:b.sto=true):(AV.mk2 a b).sto=true:=by
 unfold AV.mk2; split
 ·rfl
 ·simp[AV.sto,ha,hb]
theorem Yj6 {v a b:AV} (h:v.split=some (a,b)) (hv:v.sto=true):a.sto=true/\b.sto=true:=by
 unfold AV.split at h;split at h
 ·cases h; exact ⟨rfl,rfl⟩
 ·cases h; simpa[AV.sto] using hv
 ·cases h
theorem Yf8 {y:AV} (hy:y.sto=true):∀ (k:Nat) (l:Bool) (v v':AV),v.put y k l=some v'->v.sto=true->v'.sto=true
 | 0,true,v,v',h,hv=>by simp only[AV.put] at h; cases h; exact hy
 | 0,false,v,v',h,hv=>by
  simp only[AV.put] at h;split at h
  ·rename_i a b hs; cases h; exact Yby hy (Yj6 hs hv).2
  ·cases h
 | k+1,l,v,v',h,hv=>by
  simp only[AV.put] at h;split at h
  ·rename_i a b hs;split at h
   ·rename_i b' hb'; cases h;exact Yby (Yj6 hs hv).1 (Yf8 hy k l b b' hb' (Yj6 hs hv).2)
   ·cases h
  ·cases h
theorem Y4g:∀ (k:Nat) (l:Bool) (v:AV) (o o':Nat) (x:AV),v.comp k l o=some (o',x)->v.sto=true->x.sto=true
 | 0,true,v,o,o',x,h,hv=>by simp only[AV.comp] at h; cases h; exact hv
 | 0,false,v,o,o',x,h,hv=>by
  simp only[AV.comp] at h;split at h
  ·rename_i a b hs; cases h; exact (Yj6 hs hv).1
  ·cases h
 | k+1,l,v,o,o',x,h,hv=>by
  simp only[AV.comp] at h;split at h
  ·rename_i a b hs; exact Y4g k l b _ _ x h (Yj6 hs hv).2
  ·cases h
theorem Yhh {v x:AV} {s:Sel} (h:v.sel s=some x) (hv:v.sto=true):x.sto=true:=by
 cases s with
 | fld k l off =>
  simp only[AV.sel] at h;split at h
  ·rename_i o a hc;cases hb:Nat.beq o off with
   | false=>rw[hb] at h; cases h
   | true=>rw[hb] at h; cases h; exact Y4g k l v 0 _ _ hc hv
  ·cases h
 | inn =>
  simp only[AV.sel] at h;split at h
  ·cases h; rfl
  ·cases h; exact hv
  ·cases h
 | idx i sz n =>
  simp only[AV.sel] at h;split at h
  ·rename_i mm t xs;cases hb:Nat.beq n mm && Nat.beq sz t.size with
   | false=>rw[hb] at h; cases h
   | true=>rw[hb] at h; cases h; rfl
  ·cases h
 | row i sz=>cases h
theorem Yhw {m:Mem}:∀ (p:Path) (v x v':AV),v.set m x p=some v'->v.sto=true->x.sto=true->v'.sto=true
 | [],v,x,v',h,hv,hx=>by
  simp only[AV.set] at h;cases hb:Nat.beq x.size v.size with
  | false=>rw[hb] at h; cases h
  | true=>rw[hb] at h; cases h; exact hx
 | .fld k l off :: p,v,x,v',h,hv,hx=>by
  simp only[AV.set] at h;split at h
  ·rename_i a ha;split at h
   ·rename_i a' ha';exact Yf8 (Yhw p a x a' ha' (Yhh ha hv) hx) k l v v' h hv
   ·cases h
  ·cases h
 | .inn :: p,v,x,v',h,hv,hx=>by
  simp only[AV.set] at h;split at h
  ·rename_i a ha;split at h
   ·rename_i a' ha';cases h;have:=Yhw p a x a' ha' (Yhh ha hv) hx;unfold AV.mk1; split
    ·rfl
    ·exact this
   ·cases h
  ·cases h
 | .idx i sz n :: p,v,x,v',h,hv,hx=>by
  simp only[AV.set] at h;split at h
  ·rename_i q t xs;cases hb:Nat.beq n q && Nat.beq sz t.size with
   | false=>rw[hb] at h; cases h
   | true =>
    rw[hb] at h;simp only[cond_true] at h;split at h
    ·split at h
     ·cases h; rfl
     ·cases h
    ·cases h
  ·cases h
 | .row i sz :: p,v,x,v',h,hv,hx=>by cases h
theorem Yj4 (cells c:List Value) (base jo sz:Nat) (ds c0 c1 c2:List Value) (e1:(cells.drop jo).take sz=c0++c1++c2) (off:Nat) (e2:c0.length=off) (n:Nat) (hd:ds.length=n) (hl1:c1.length=n)
  (hq:c0.length+c1.length+c2.length=sz) (hle:jo+sz <= cells.length) (b5:∀ j v,cells[j]?=some v->c[base+j]?=some v) (hc:base+cells.length <= c.length) :
  ∀ (jj:Nat) (u:Value),(cells.take jo++(c0++ds++c2)++cells.drop (jo+sz))[jj]?=some u->(c.take (base+(jo+off))++ds++c.drop (base+(jo+off)+n))[base+jj]?=some u:=by
 have hcells:cells=cells.take jo++(c0++c1++c2)++cells.drop (jo+sz):=by
  rw[<- e1,la9,<- List.drop_drop,List.take_append_drop,List.take_append_drop]
 have hlj:(cells.take jo).length=jo:=by rw[List.length_take]; omega
 intro jj u hu;have hL:(c.take (base+(jo+off))).length=base+(jo+off):=by rw[List.length_take]; omega
 by_cases h1:jj < jo+off
 ·rw[la9,List.getElem?_append_left (by omega),List.getElem?_take_of_lt (by omega)];refine b5 jj u ?_;rw[hcells];by_cases h2:jj < jo
  ·rw[la9,List.getElem?_append_left (by omega)] at hu ⊢; exact hu
  ·rw[la9,List.getElem?_append_right (by omega)] at hu ⊢;rw[la9,la9,List.getElem?_append_left (by omega)] at hu ⊢;exact hu
 ·by_cases h2:jj < jo+off+n
  ·rw[la9,List.getElem?_append_right (by omega),List.getElem?_append_left (by omega)];rw[la9,List.getElem?_append_right (by omega),la9,la9,List.getElem?_append_right (by omega),List.getElem?_append_left (by omega)] at hu;rw[<- hu]; congr 1; omega
  ·rw[la9,List.getElem?_append_right (by omega),List.getElem?_append_right (by omega),List.getElem?_drop]
   have hu':cells[jj]?=some u:=by
    rw[hcells];rw[la9,List.getElem?_append_right (by omega),la9,la9,List.getElem?_append_right (by omega),List.getElem?_append_right (by omega)] at hu ⊢;rw[<- hu]; congr 1; omega
   rw[<- b5 jj u hu']; congr 1; omega
theorem Y3l {ok:Nat->Prop} {v:AV} {cv:Value} (hs:v.sto=true) (h:RV g w ok v cv):cv.cells.size=v.size:=by
 have:=RC_len _ _ (Yo hs h);simpa using this
theorem Yh6 {t:TypeId} {i:TI} (hi:TIok P t i) {v:Value} (hl:v.cells.size=i.size) (w:World) (b off:Nat) (e:TypeId) (cur:Array Value) (hh:w.heap[b]?=some (.cells cur e (0,0)))
  (hfit:off+i.size <= cur.size) (h1:∀ u ∈ v.cells.toList,u.oneCell'=true) :
  (storeVar t ⟨b,off,none⟩ v).run P w=.ok () (w.setRow b (cur.toList.take off++v.cells.toList++cur.toList.drop (off+i.size)).toArray):=by
 unfold storeVar;rw[Sem.run_bind,Yh3 hi w];have h2:=run_storeCells_at P b off e v.cells.toList 0 cur w hh (by simp[hl]; exact hfit) h1;simp only[Array.length_toList,Nat.add_zero,hl] at h2;simp[hl,h2]
theorem Yhv (w:World) (b:Nat) (c:Array Value):(w.setRow b c).heap.size=w.heap.size:=by simp[World.setRow]
theorem Yje {t:TypeId} {i:TI} {x y:Operand} (ho:o.op=.store t x y) (hi:TIok P t i) (hI:Inv g X m w) {fr:Fr} (hf:FrOK g w (okB X g m) fr a.tmps)
  (hz:(ev fr y).size=i.size) (h:storeA m (ev fr y) (fun m=>k .dead m g.n) (ev fr x)=some r):OpR P X o a w g m k kp r:=by
 have hx:=ev_ok hf x;have hy:=ev_ok hf y;cases hq:ev fr x with
 | ptr τ p =>
  rw[hq] at h hx;obtain ⟨h1,h2,h3⟩:=Yet hx;simp only[storeA] at h;cases hs:(ev fr y).sto with
  | false=>rw[hs] at h; cases h
  | true =>
  rw[hs] at h;simp only[cond_true] at h;have hyc:=Yo hs hy;have hcs:(a.eval y).cells.size=i.size:=by rw[Y3l hs hy,hz]
  have hone:∀ u ∈ (a.eval y).cells.toList,u.oneCell'=true:=RC_one _ _ hs hyc;have hB:=hI.ok τ;cases hm:mget τ m with
  | var v =>
   rw[hm] at h hB;simp only at h;obtain ⟨hb0,hvs,hnn,c,e,hh,hv⟩:=hB;cases hgv:v.set m (ev fr y) p with
   | none=>rw[hgv] at h; cases h
   | some v' =>
    rw[hgv] at h;simp only at h;obtain ⟨c0,c1,c2,e1,e2,e3,e4⟩:=set_ok (g:=g) (w:=w) (ok:=okB X g m) (fun τ=>hI.ok τ) p v (ev fr y) v' hgv h2 _ _ hv hyc;have hl1:c1.length=i.size:=by rw[e3]; simpa using hcs
    have hcl:c.size=c0.length+c1.length+c2.length:=by
     have:=congrArg List.length e1;simp at this; omega
    have hrun:=Yh6 hi hcs w (g.loc τ).blk (Path.off p) e c hh (by omega) hone
    have hnew:(c.toList.take (Path.off p)++(a.eval y).cells.toList++c.toList.drop (Path.off p+i.size))=c0++(a.eval y).cells.toList++c2:=by
     rw[e1,<- e2,<- hl1,la9 c0,List.take_left,List.drop_append,List.drop_append];simp
    rw[hnew] at hrun;have hlive:Lv g m τ:=⟨by rw[hm]; rfl,hnn⟩
    have hh':=setRow_heap w (g.loc τ).blk c (c0++(a.eval y).cells.toList++c2).toArray e _ hh;have hoth:∀ b,b ≠ (g.loc τ).blk->(w.setRow (g.loc τ).blk (c0++(a.eval y).cells.toList++c2).toArray).heap[b]?=w.heap[b]?:=fun b hb=>setRow_other w _ b _ hb
    have hx':=Ext.upd (B':=.var v') hlive (Yhv w (g.loc τ).blk (c0++(a.eval y).cells.toList++c2).toArray) hoth rfl rfl rfl;refine OpR.skip (m':=(τ,.var v') :: m) (g':=g) ?_ h (hI.upd hlive (Yhv _ _ _) hoth rfl rfl rfl ?_) hx'
    ·unfold execOp;simp only[ho,Instr.storeAt,Instr.sureAddr,h3,hb0,Nat.zero_add,Sem.run_bind,Sem.run_pure,Result.andThen_ok,hrun]
    ·exact ⟨hb0,Yhw p v _ v' hgv hvs hs,hnn,_,e,hh',Yj (GExt.refl g) (hx'.holds) _ _ e4⟩
  | row t' xs =>
   rw[hm] at h hB;simp only at h;obtain ⟨hI1,hx1⟩:=Inv.frzL (ev fr y).toks hI;generalize hm1:frzL (ev fr y).toks m=m1 at *;cases hm2:mget τ m1 with
   | row t2 xs2 =>
    rw[hm2] at h;simp only at h
    have hsame:mget τ m1=.row t' xs:=by
     have:=Y7q (ev fr y).toks m τ (by rw[hm1,hm2]; rfl);rw[hm1,hm] at this; exact this
    cases p with
    | nil=>cases h
    | cons s q =>
     cases s with
     | row j sz =>
      simp only at h;cases hb:Nat.beq sz t'.size with
      | false=>rw[hb] at h; cases h
      | true =>
      rw[hb] at h;simp only[cond_true] at h;have hsz:=eb9 hb;subst hsz;cases hgv:(AV.d t' (getAt t'.zero xs j)).set m1 (ev fr y) q with
      | none=>rw[hgv] at h; cases h
      | some v' =>
       rw[hgv] at h;simp only at h;cases hd:v'.data m1 t' with
       | none=>rw[hd] at h; cases h
       | some yy =>
        rw[hd] at h;simp only at h;have hB:=hI1.ok τ;rw[hsame] at hB;obtain ⟨b1,b2,b0⟩:=hB;have hj:j < xs.length:=by rw[b1]; exact h2 (.row j t'.size) (by simp)
        obtain ⟨b7,c,e,cells,b3,b4,b5,b6⟩:=b0.resolve_left (fun h=>by omega);have hR:=fun x cs h=>Rd_len w (okB X g m1) t' x cs h
        have hat:=RdL_at hR xs cells b4 j t'.zero hj;have hyc1:=Yj hx1.gx hx1.holds _ _ hyc;obtain ⟨c0,c1,c2,e1,e2,e3,e4⟩:=set_ok (g:=g) (w:=w) (ok:=okB X g m1) (n:=(g.loc τ).len) (fun τ=>hI1.ok τ) q (.d t' (getAt t'.zero xs j)) (ev fr y) v' hgv (fun s hs=>h2 s (by simp[hs])) _ _ hat hyc1;have e5:=Y56 (g:=g) (w:=w) (ok:=okB X g m1) (fun τ=>hI1.ok τ) v' t' yy hd _ e4;have hset:=Y12 hR xs cells b4 j yy _ hj e5;have hcl:=Yx hR xs cells b4;have hl1:c1.length=i.size:=by rw[e3]; simpa using hcs
        have hq:c0.length+c1.length+c2.length=t'.size:=by
         have:=congrArg List.length e1;rw[List.length_take,List.length_drop,hcl] at this;have hle:(j+1) * t'.size <= xs.length * t'.size:=Nat.mul_le_mul_right _ hj;rw[Nat.add_mul,Nat.one_mul] at hle;simp at this; omega
        have hle:(j+1) * t'.size <= xs.length * t'.size:=Nat.mul_le_mul_right _ hj;have hle2:xs.length * t'.size <= (g.loc τ).cap * t'.size:=Nat.mul_le_mul_right _ (by omega);rw[Nat.add_mul,Nat.one_mul] at hle;have hrun:=Yh6 hi hcs w (g.loc τ).blk ((g.loc τ).base+(j * t'.size+Path.off q)) e c b3 (by omega) hone;generalize hN:(c.toList.take ((g.loc τ).base+(j * t'.size+Path.off q))++(a.eval y).cells.toList++c.toList.drop ((g.loc τ).base+(j * t'.size+Path.off q)+i.size))=nc at hrun
        have hncl:nc.length=c.size:=by
         rw[<- hN]; simp only[ln9,List.length_take,List.length_drop,Array.length_toList]; omega
        have hlive:Lv g m1 τ:=⟨by rw[hsame]; rfl,b7⟩
        have hh':=setRow_heap w (g.loc τ).blk c nc.toArray e _ b3;have hoth:∀ b,b ≠ (g.loc τ).blk->(w.setRow (g.loc τ).blk nc.toArray).heap[b]?=w.heap[b]?:=fun b hb=>setRow_other w _ b _ hb
        have hx':=Ext.upd (B':=.row t' (xs.set j yy)) hlive (Yhv w (g.loc τ).blk nc.toArray) hoth rfl rfl rfl;refine OpR.skip (m':=(τ,.row t' (xs.set j yy)) :: m1) (g':=g) ?_ h (hI1.upd hlive (Yhv _ _ _) hoth rfl rfl rfl ?_) (hx1.trans hx')
        ·unfold execOp;simp only[ho,Instr.storeAt,Instr.sureAddr,h3,Path.off,Sel.off,Sem.run_bind,Sem.run_pure,Result.andThen_ok,hrun]
        ·refine ⟨by rw[List.length_set]; exact b1,b2,.inr ⟨b7,nc.toArray,e,_,hh',Yz (fun x cs=>Y17 hx'.holds t' x cs) _ _ hset,fun jj u hu=>?_,by simp[hncl]; exact b6⟩⟩;rw[List.getElem?_toArray,<- hN];exact Yj4 cells c.toList (g.loc τ).base (j * t'.size) t'.size (a.eval y).cells.toList c0 c1 c2 e1 (Path.off q) e2 i.size (by simpa using hcs) hl1 hq (by omega) (fun j v h=>by simpa using b5 j v h) (by have:=c.length_toList; omega) jj u hu
     | _=>cases h
   | _=>rw[hm2] at h; cases h
  | _=>rw[hm] at h; cases h
 | _=>rw[hq] at h; cases h
end
section
variable {P:Program} {X:Nat->Prop} {R:Type} {o:Oper} {a:Act} {w:World} {g:G} {m:Mem} {k kp:AV->Mem->Nat->Option R} {r:R} {fr:Fr}
theorem Yca {x:Operand} (ho:o.op=.move x \/ o.op=.assign x) (hI:Inv g X m w) (hf:FrOK g w (okB X g m) fr a.tmps) (h:k (ev fr x) m g.n=some r):OpR P X o a w g m k kp r:=by
 refine OpR.value (cv:=a.eval x) ?_ h hI (ev_ok hf x) (Ext.refl _ _ _);unfold execOp;rcases ho with ho | ho <;> rw[ho] <;> rfl
theorem Y2v {ok:Nat->Prop} {b:Bool} {cv:Value} (h:RV g w ok (.d .bool b) cv):cv=.bool b:=by
 have:=h.2 rfl; exact (List.cons.inj this).1
theorem Y9b {ok:Nat->Prop} {kk:IntKind} {n:Int} {cv:Value} (h:RV g w ok (.d (.int kk) n) cv):cv=.int kk n:=by
 have:=h.2 rfl; exact (List.cons.inj this).1
theorem Y2w {ok:Nat->Prop} (b:Bool):RV g w ok (.d .bool b) (.bool b):=⟨fun h=>(by cases h),fun _=>rfl⟩
theorem int_mk {ok:Nat->Prop} (kk:IntKind) (n:Int):RV g w ok (.d (.int kk) n) (.int kk n):=⟨fun h=>(by cases h),fun _=>rfl⟩
theorem Yei {c x y:Operand} (ho:o.op=.pick c x y) (hI:Inv g X m w) (hf:FrOK g w (okB X g m) fr a.tmps) {t:Bool} (hc:ev fr c=.d .bool t)
  (h:(cond t (k (ev fr x) m g.n) (k (ev fr y) m g.n))=some r):OpR P X o a w g m k kp r:=by
 have h1:=ev_ok hf c;rw[hc] at h1;have h2:=Y2v h1;cases t with
 | true =>
  refine OpR.value (cv:=a.eval x) ?_ h hI (ev_ok hf x) (Ext.refl _ _ _);unfold execOp; simp[ho,h2,asBool]
 | false =>
  refine OpR.value (cv:=a.eval y) ?_ h hI (ev_ok hf y) (Ext.refl _ _ _);unfold execOp; simp[ho,h2,asBool]
theorem new_ok {v:AV} {cs:Array Value} {e:TypeId} (hI:Inv g X m w) (hs:v.sto=true) (hv:RC g w (okB X g m) v cs.toList)
  (hr:(execOp a.eval o).run P w=.ok (.value (.pointer (some ⟨w.heap.size,0,none⟩))) (w.alloc (.cells cs e))) (h:k (.ptr g.n []) ((g.n,.var v) :: m) (g.n+1)=some r):OpR P X o a w g m k kp r:=by
 have hx:=Ext.alloc hI (.cells cs e) (.var v) ⟨w.heap.size,0,0,0,false⟩ rfl;refine OpR.value (g':=g.new ⟨w.heap.size,0,0,0,false⟩) hr h (hI.alloc _ _ _ rfl ?_) ?_ hx
 ·refine ⟨by rw[g.new_self],hs,by rw[g.new_self],cs,e,?_,Yj hx.gx hx.holds _ _ hv⟩;rw[g.new_self]; exact heap_alloc_new w _
 ·refine RV_one rfl ⟨.inr rfl,fun s hs=>(by cases hs),?_⟩;rw[g.new_self]; rfl
theorem Y1j {t:TypeId} {i:TI} (ho:o.op=.alloc t) (hi:TIok P t i) (hI:Inv g X m w) (h:k (.ptr g.n []) ((g.n,.var i.zero) :: m) (g.n+1)=some r):OpR P X o a w g m k kp r:=by
 obtain ⟨f,z,h1,h2,h3,h4,h5,h6⟩:=hi.info;refine new_ok (cs:=z.cells) (e:=t) hI h4 (Yo h4 (h6 _ _ _)) ?_ h;unfold execOp;simp[ho,Instr.alloc,zeroValue,typeInfo,h1,h3,newVar,newRow]
theorem box_ok {t:TypeId} {x:Operand} (ho:o.op=.box t x) (hI:Inv g X m w) (hf:FrOK g w (okB X g m) fr a.tmps) (hs:(ev fr x).sto=true)
  (h:k (.ptr g.n []) ((g.n,.var (ev fr x)) :: m) (g.n+1)=some r):OpR P X o a w g m k kp r:=by
 refine new_ok (cs:=(a.eval x).cells) (e:=t) hI hs (Yo hs (ev_ok hf x)) ?_ h;unfold execOp;simp[ho,Instr.box,newVar,newRow]
theorem Y7f:∀ (vs:List Value) (cs:Array Value) (off j:Nat),off+j+vs.length <= cs.size ->
  ((vs.zipIdx j).foldl (fun cs (p:Value × Nat)=>cs.setIfInBounds (off+p.2) p.1) cs).toList=cs.toList.take (off+j)++vs++cs.toList.drop (off+j+vs.length)
 | [],cs,off,j,_=>by simp
 | v :: vs,cs,off,j,h=>by
  simp only[List.zipIdx_cons,List.foldl_cons];have h2:=Y7f vs (cs.setIfInBounds (off+j) v) off (j+1) (by simp at h ⊢; omega);rw[h2];simp only[Array.toList_setIfInBounds];have:=list_seg_step cs.toList (off+j) v vs (by simp at h ⊢; omega);simp only[List.length_cons] at *;rw[show off+(j+1)=off+j+1 by omega,show off+j+(vs.length+1)=off+j+1+vs.length by omega];simpa[Nat.add_assoc,Nat.add_comm 1] using this
theorem Y6l {ok:Nat->Prop} (hf:∀ τ,BOK g w ok τ (mget τ m)) {flds:List Sel} {fsz:List Nat} {place:Nat->Option (Nat × Nat)}
  (hp:∀ k,k < flds.length->place k=some ((getAt Sel.inn flds k).off,getAt 0 fsz k)/\∀ n,(getAt Sel.inn flds k).ok n) :
  ∀ (l:List (AV × Nat)) (vs:List (Nat × Value)),l.length=vs.length->(∀ (j:Nat) (x:AV × Nat) (v:Nat × Value),l[j]?=some x->vs[j]?=some v->x.2=v.1/\RV g w ok x.1 v.2)->∀ (v0 v:AV) (cells:Array Value),fields m flds fsz v0 l=some v->v0.sto=true->RC g w ok v0 cells.toList ->
  ∃ cells',Instr.fill place cells vs=some cells'/\RC g w ok v cells'.toList/\v.sto=true
 | [],[],_,_,v0,v,cells,h,hs,hv=>by
  simp only[fields] at h; cases h;exact ⟨cells,rfl,hv,hs⟩
 | (x,i) :: l,(j,u) :: vs,hl,he,v0,v,cells,h,hs,hv=>by
  obtain ⟨e1,e2⟩:=he 0 _ _ rfl rfl;simp only at e1 e2;subst e1;simp only[fields] at h;cases hb:Nat.blt i flds.length && (Nat.beq x.size (getAt 0 fsz i) && x.sto) with
  | false=>rw[hb] at h; cases h
  | true =>
   rw[hb] at h;simp only[cond_true] at h;simp only[ba9] at hb;obtain ⟨hb1,hb2,hb3⟩:=hb;have hlt:i < flds.length:=by simpa using hb1
   have hsz:=eb9 hb2;obtain ⟨hp1,hp2⟩:=hp i hlt;cases hset:v0.set m x [getAt .inn flds i] with
   | none=>rw[hset] at h; cases h
   | some v' =>
    rw[hset] at h;simp only at h;obtain ⟨c0,c1,c2,k1,k2,k3,k4⟩:=set_ok hf (n:=0) [getAt .inn flds i] v0 x v' hset (fun s hs'=>by simp at hs'; subst hs'; exact hp2 0) _ _ hv (Yo hb3 e2);have hcs:=Y3l hb3 e2
    have hcl:cells.size=c0.length+c1.length+c2.length:=by
     have:=congrArg List.length k1;simp at this; omega
    have hk3:c1.length=u.cells.size:=by rw[k3]; simp
    have hoff:c0.length=(getAt Sel.inn flds i).off:=by rw[k2]; simp[Path.off]
    have hfold:=Y7f u.cells.toList cells (getAt Sel.inn flds i).off 0 (by simp only[Array.length_toList]; omega);simp only[Nat.add_zero] at hfold
    have hnew:cells.toList.take (getAt Sel.inn flds i).off++u.cells.toList++cells.toList.drop ((getAt Sel.inn flds i).off+u.cells.toList.length)=c0++u.cells.toList++c2:=by
     rw[k1,<- hoff,<- k3,la9 c0,List.take_left,List.drop_append,List.drop_append];simp
    rw[hnew] at hfold;obtain ⟨cells',q1,q2,q3⟩:=Y6l hf hp l vs (by simpa using hl) (fun jj y v h1 h2=>he (jj+1) y v (by simpa using h1) (by simpa using h2)) v' v ((u.cells.toList.zipIdx 0).foldl (fun cs (p:Value × Nat)=>cs.setIfInBounds ((getAt Sel.inn flds i).off+p.2) p.1) cells) h (Yhw _ v0 x v' hset hs hb3) (by rw[hfold]; exact k4);refine ⟨cells',?_,q2,q3⟩;unfold Instr.fill;simp only[hp1];rw[if_neg (by simp only[not_or,Decidable.not_not,ne_eq,Bool.or_eq_true,decide_eq_true_eq,Bool.decide_or]; constructor <;> first | omega | (rw[hcs]; exact hsz))];rw[<- q1];congr 1;rw[<- Array.foldl_toList,Array.toList_zipIdx]
 | [],_ :: _,hl,_,_,_,_,_,_,_=>by simp at hl
 | _ :: _,[],hl,_,_,_,_,_,_,_=>by simp at hl
theorem Y2z {t:TypeId} {i:TI} {parts:Array (Nat × Operand)} (ho:o.op=.build t parts) (hi:TIok P t i) (hI:Inv g X m w) (hf:FrOK g w (okB X g m) fr a.tmps)
  (h0:0 < i.flds.length) (hag:i.agg=true) {v:AV} (hfl:fields m i.flds i.fsz i.zero (parts.toList.map fun p=>(ev fr p.2,p.1))=some v) (hva:v.isAgg=true) (h:k v m g.n=some r):OpR P X o a w g m k kp r:=by
 obtain ⟨f,z,place,h1,h2,h3,h4⟩:=hi.build h0;obtain ⟨f',z',h1',h2',h3',h4',h5',h6'⟩:=hi.info;obtain rfl:f=f':=by rw[h1] at h1'; exact oi9 h1'
 obtain rfl:z=z':=by rw[h2] at h3'; exact oi9 h3'
 obtain ⟨cells',q1,q2,q3⟩:=Y6l (g:=g) (w:=w) (ok:=okB X g m) (fun τ=>hI.ok τ) h4 (parts.toList.map fun p=>(ev fr p.2,p.1)) (parts.toList.map fun p=>(p.1,a.eval p.2)) (by simp)
  (fun j x v e1 e2=>by
   simp only[List.getElem?_map] at e1 e2;cases hp:parts.toList[j]? with
   | none=>rw[hp] at e1; cases e1
   | some p=>rw[hp] at e1 e2; cases e1; cases e2; exact ⟨rfl,ev_ok hf p.2⟩)
  i.zero v z.cells hfl h4' (Yo h4' (h6' _ _ _))
 refine OpR.value (cv:=.agg cells') ?_ h hI ⟨fun _=>⟨cells'.toList,rfl,q2⟩,fun e=>by rw[hva] at e; cases e⟩ (Ext.refl _ _ _);have hb:P.built t (parts.map fun p=>(p.1,a.eval p.2)).toList=some cells':=by rw[h3,Array.toList_map]; exact q1
 unfold execOp;simp[ho,run_build w t _ cells' hb]
end
theorem Yep (p q:Path):Path.off (p++q)=Path.off p+Path.off q:=by
 induction p with
 | nil=>simp[Path.off]
 | cons s p ih=>simp[Path.off,ih]; omega
theorem Yeq {n:Nat} {p:Path} {s:Sel} (h:pathOK n p) (hs:s.ok n):pathOK n (p++[s]):=by
 intro x hx;rcases List.mem_append.1 hx with hx | hx
 ·exact h x hx
 ·simp at hx; subst hx; exact hs
theorem Y1c {w:World} {ok:Nat->Prop} {b o:Nat} {c0 c1 c2:List Value} (h:Seg w ok ⟨b,o,none⟩ (c0++c1++c2)):Seg w ok ⟨b,o+c0.length,none⟩ c1:=by
 obtain ⟨h1,h2,c,e,fr,h3,h4⟩:=h;refine ⟨rfl,h2,c,e,fr,h3,fun j v hv=>?_⟩
 have:=h4 (c0.length+j) v (by
  rw[la9,List.getElem?_append_right (by omega),Nat.add_sub_cancel_left,List.getElem?_append_left ((List.getElem?_eq_some_iff.1 hv).1)];exact hv)
 rw[show o+c0.length+j=o+(c0.length+j) by omega]; exact this
section
variable {P:Program} {X:Nat->Prop} {R:Type} {o:Oper} {a:Act} {w:World} {g:G} {m:Mem} {k kp:AV->Mem->Nat->Option R} {r:R} {fr:Fr}
theorem ptr_mk {ok:Nat->Prop} {τ:Nat} {p:Path} (h1:g.dom τ) (h2:pathOK (g.loc τ).len p):RV g w ok (.ptr τ p) (.pointer (some ⟨(g.loc τ).blk,(g.loc τ).base+Path.off p,none⟩)) :=
 RV_one rfl ⟨h1,h2,rfl⟩
theorem Yft {b:Bool} {x:Option R} (h:req b x=some r):b=true/\x=some r:=by
 cases b with
 | true=>exact ⟨rfl,h⟩
 | false=>cases h
theorem Y8s {n:Int} {l:Nat} (h:inb n l=true):0 <= n/\n < l:=by
 unfold inb at h; simpa using h
theorem Y6j {t:TypeId} {i:TI} {x:Operand} {f:Nat} (ho:o.op=.fieldAddr t x f) (hi:TIok P t i) (hI:Inv g X m w) (hf:FrOK g w (okB X g m) fr a.tmps)
  (h:(bif Nat.blt f i.flds.length && Nat.beq i.kind 1 then match ev fr x with
   | .ptr τ p=>k (.ptr τ (p++[getAt .inn i.flds f])) m g.n
   | .pv t x=>match (AV.d t x).sel (getAt .inn i.flds f) with
    | some (.d t' x')=>bif Nat.blt 0 t'.size then k (.pv t' x') m g.n else none
    | _=>none
   | _=>none else none)=some r):OpR P X o a w g m k kp r:=by
 cases hb:Nat.blt f i.flds.length && Nat.beq i.kind 1 with
 | false=>rw[hb] at h; cases h
 | true =>
  rw[hb] at h;simp only[cond_true] at h;rw[ba9] at hb;obtain ⟨fs,h1,h2⟩:=hi.struct (eb9 hb.2);obtain ⟨fl,fi,d,h3,h4,h5,h6,h7,h8,h9,h10⟩:=h2 f (by simpa using hb.1);have hx:=ev_ok hf x
  have run:∀ b off,a.eval x=.pointer (some ⟨b,off,none⟩)->(execOp a.eval o).run P w=.ok (.value (.pointer (some ⟨b,off+(getAt Sel.inn i.flds f).off,none⟩))) w:=by
   intro b off e;have hz:(sizeOf fl.type).run P w=.ok fi.size w:=by simp[sizeOf,typeInfo,h5]
   unfold execOp;simp[ho,Instr.fieldAt,e,Instr.sureAddr,run_underlying h1,h3,fieldPlace,hz,h7,h4,add_eq]
  cases hq:ev fr x with
  | ptr τ p =>
   rw[hq] at h hx;obtain ⟨k1,k2,k3⟩:=Yet hx;refine OpR.value (run _ _ k3) h hI ?_ (Ext.refl _ _ _);have:=ptr_mk (w:=w) (ok:=okB X g m) k1 (Yeq k2 (h10 _));rw[Yep] at this;simpa[Path.off,Nat.add_assoc] using this
  | pv t' y =>
   rw[hq] at h hx;simp only at h;obtain ⟨ad,cells,e1,e2,e3⟩:=hx.2 rfl;obtain ⟨b,off,s⟩:=ad;obtain rfl:s=none:=e3.1;have e1:=(List.cons.inj e1).1;cases hs:(AV.d t' y).sel (getAt .inn i.flds f) with
   | none=>rw[hs] at h; cases h
   | some v =>
    rw[hs] at h;cases v with
    | d t2 x2 =>
     simp only at h;cases hz:Nat.blt 0 t2.size with
     | false=>rw[hz] at h; cases h
     | true =>
      rw[hz] at h;obtain ⟨c0,c1,c2,q1,q2,q3⟩:=sel_ok (g:=g) (w:=w) (ok:=okB X g m) hs (h10 0) (cs:=cells) e2;subst q1;refine OpR.value (run _ _ e1) h hI (RV_one rfl ⟨_,c1,rfl,q3,?_⟩) (Ext.refl _ _ _);rw[<- q2]; exact Y1c e3
    | _=>cases h
  | _=>rw[hq] at h; cases h
theorem Ye9 {t:TypeId} {fi:TypeInfo} {d:TypeDesc} {ag:Bool} (h1:P.info? t=some fi) (h2:P.underlying t=some d) (h3:isAggD d=ag) {ok:Nat->Prop} {v:AV} {cs:Array Value} {c0 c1 c2:List Value}
  (hc:cs.toList=c0++c1++c2) (hv:RC g w ok v c1) (hz:v.size=fi.size) (ha:v.isAgg=ag):∃ cv,(part t cs c0.length).run P w=.ok cv w/\RV g w ok v cv:=by
 have hag:(isAgg t).run P w=.ok ag w:=by
  unfold isAgg;rw[Sem.run_bind,run_underlying h2 w];cases d <;> simp_all[isAggD]
 have hsz:(sizeOf t).run P w=.ok fi.size w:=by simp[sizeOf,typeInfo,h1]
 have hl:=RC_len v c1 hv;cases ag with
 | true =>
  refine ⟨.agg (cs.extract c0.length (c0.length+fi.size)),by simp[part,hag,hsz],fun _=>⟨c1,?_,hv⟩,fun e=>by rw[ha] at e; cases e⟩;congr 1;apply Array.toList_inj.1;rw[Array.toList_extract,hc];simp only[List.extract_eq_take_drop,Nat.add_sub_cancel_left];rw[la9,List.drop_left,List.take_append_of_le_length (by omega),List.take_of_length_le (by omega)]
 | false =>
  have h1:v.size=1:=by
   cases v with
   | d t x=>cases t <;> first | rfl | cases ha
   | pr=>cases ha
   | one=>cases ha
   | _=>rfl
  match c1,hl.trans h1 with
  | [u],_ =>
   refine ⟨u,?_,RV_one ha hv⟩
   have:cs[c0.length]?=some u:=by
    have h2:cs.toList[c0.length]?=some u:=by rw[hc]; simp
    simpa using h2
   simp[part,hag,this]
theorem Y6k {t:TypeId} {i:TI} {x:Operand} {f:Nat} (ho:o.op=.field t x f) (hi:TIok P t i) (hI:Inv g X m w) (hf:FrOK g w (okB X g m) fr a.tmps)
  (h:(bif Nat.blt f i.flds.length && (Nat.beq i.kind 1 && (ev fr x).isAgg) then match (ev fr x).sel (getAt .inn i.flds f) with
   | some v=>bif Nat.beq v.size (getAt 0 i.fsz f) && (v.isAgg == getAt false i.fag f) then k v m g.n else none
   | none=>none else none)=some r):OpR P X o a w g m k kp r:=by
 cases hb:Nat.blt f i.flds.length && (Nat.beq i.kind 1 && (ev fr x).isAgg) with
 | false=>rw[hb] at h; cases h
 | true =>
  rw[hb] at h;simp only[cond_true] at h;simp only[ba9] at hb;have hagg:=hb.2.2;obtain ⟨fs,h1,h2⟩:=hi.struct (eb9 hb.2.1);obtain ⟨fl,fi,d,h3,h4,h5,h6,h7,h8,h9,h10⟩:=h2 f (by simpa using hb.1);have hx:=ev_ok hf x;cases hs:(ev fr x).sel (getAt .inn i.flds f) with
  | none=>rw[hs] at h; cases h
  | some v =>
   rw[hs] at h;simp only at h;cases hz:Nat.beq v.size (getAt 0 i.fsz f) && (v.isAgg == getAt false i.fag f) with
   | false=>rw[hz] at h; cases h
   | true =>
    rw[hz] at h;rw[ba9] at hz;obtain ⟨ds,e1,e2⟩:=hx.1 hagg;obtain ⟨c0,c1,c2,q1,q2,q3⟩:=sel_ok hs (h10 0) e2;obtain ⟨cv,p1,p2⟩:=Ye9 (P:=P) (cs:=ds.toArray) h5 h8 h9 (by simpa using q1) q3 ((eb9 hz.1).trans h6.symm) (Y2h hz.2);refine OpR.value ?_ h hI p2 (Ext.refl _ _ _);unfold execOp;rw[q2,<- h4] at p1;simp[ho,Instr.field,e1,asAgg,run_underlying h1,h3,p1]
theorem Y9c {t:TypeId} {e:TypeId} {fi:TypeInfo} {cap len:Nat} {n:Int} {kk:IntKind} {b off:Nat} (h1:P.underlying t=some (.slice e)) (h2:P.info? e=some fi) (hn:0 <= n/\n < len) :
  (Instr.indexAt t (.slice (some ⟨b,off,none⟩) len cap) (.int kk n)).run P w=.ok (.pointer (some ⟨b,off+n.toNat * fi.size,none⟩)) w:=by
 simp[Instr.indexAt,asIntOf,run_underlying h1,hn.1,hn.2,sizeOf,typeInfo,h2,add_eq]
theorem Y62 {ok:Nat->Prop} {e:Ty} {l:List e.T} {cv:Value} (hv:RV g w ok (.d (.slice e) l) cv) {n:Int} (hn:0 <= n/\n < l.length) :
  ∃ b off cap,cv=.slice (some ⟨b,off,none⟩) l.length cap/\RV g w ok (.pv e (getAt e.zero l (toN n))) (.pointer (some ⟨b,off+n.toNat * e.size,none⟩)):=by
 obtain ⟨ad,cap,e1,e2,e3⟩:=hv.2 rfl;have e1:=(List.cons.inj e1).1;rcases e3 with e3 | ⟨ad',cells,rfl,q1,q2⟩
 ·have e3:l=[]:=e3;rw[e3] at hn; simp at hn; omega
 ·obtain ⟨b,off,s⟩:=ad';obtain rfl:s=none:=q2.1;refine ⟨b,off,cap,e1,RV_one rfl ⟨_,(cells.drop (n.toNat * e.size)).take e.size,rfl,?_,?_⟩⟩
  ·exact RdL_at (fun x cs h=>Rd_len w ok e x cs h) l cells q1 n.toNat e.zero (by omega)
  ·have hcl:=Yx (fun x cs h=>Rd_len w ok e x cs h) l cells q1;have hle:(n.toNat+1) * e.size <= l.length * e.size:=Nat.mul_le_mul_right _ (by omega);rw[Nat.add_mul,Nat.one_mul] at hle
   have:cells=cells.take (n.toNat * e.size)++(cells.drop (n.toNat * e.size)).take e.size++(cells.drop (n.toNat * e.size)).drop e.size:=by
    rw[la9,List.take_append_drop,List.take_append_drop]
   rw[this] at q2;have hs:=Y1c q2;rw[List.length_take,Nat.min_eq_left (by omega)] at hs;exact hs
theorem sl_get {ok:Nat->Prop} {τ:Nat} {cv:Value} (h:RV g w ok (.sl τ) cv):g.dom τ/\cv=(g.loc τ).sv:=by
 obtain ⟨h1,h2⟩:=h.2 rfl;exact ⟨h1,(List.cons.inj h2).1⟩
theorem Y3f {n:Int} {f:Sel->Option R}:∀ (l:List Sel) (j:Nat),Y3e n l j f=some r->∃ i,i < l.length/\n=((j+i:Nat):Int)/\f (getAt .inn l i)=some r
 | [],j,h=>by cases h
 | s :: l,j,h=>by
  simp only[Y3e] at h;cases hb:n == (j:Int) with
  | true =>
   rw[hb] at h;exact ⟨0,by simp,by simpa using hb,h⟩
  | false =>
   rw[hb] at h;obtain ⟨i,h1,h2,h3⟩:=Y3f l (j+1) h;exact ⟨i+1,by simp; omega,by rw[h2]; congr 1; omega,h3⟩
theorem Y2j {b:Bool} {x:Option R} (h:(bif b then x else none)=some r):b=true/\x=some r:=by
 cases b with
 | true=>exact ⟨rfl,h⟩
 | false=>cases h
theorem Y8u {t:TypeId} {i:TI} {x ix:Operand} (ho:o.op=.indexAddr t x ix) (hi:TIok P t i) (hI:Inv g X m w) {e:Ty} {l:List e.T} {kk:IntKind} {n:Int}
  (hx:RV g w (okB X g m) (.d (.slice e) l) (a.eval x)) (hn:RV g w (okB X g m) (.d (.int kk) n) (a.eval ix))
  (h:(bif Nat.beq i.kind 2 && Nat.beq e.size i.ety.size then req (inb n (lenL e l)) (k (.pv e (getAt e.zero l (toN n))) m g.n) else none)=some r):OpR P X o a w g m k kp r:=by
 obtain ⟨hb,h⟩:=Y2j h;rw[ba9] at hb;obtain ⟨h1,h2⟩:=Yft h;have hin:=Y8s h1;obtain ⟨el,fi,ez,k1,k2,k3,_⟩:=hi.slice (eb9 hb.1);obtain ⟨b,off,cap,q1,q2⟩:=Y62 hx hin;have hsz:fi.size=e.size:=k3.trans (eb9 hb.2).symm;refine OpR.value ?_ h2 hI q2 (Ext.refl _ _ _);unfold execOp;rw[ho];have hin':0 <= n/\n < (l.length:Nat):=hin;simp only[q1,Y9b hn,Sem.run_bind,Y9c (w:=w) (cap:=cap) (b:=b) (off:=off) (kk:=kk) k1 k2 hin',Result.andThen_ok,Sem.run_pure,hsz]
theorem frz_rv {τ:Nat} {e:Ty} {l:List e.T} {cv:Value} (hI:Inv g X m w) (hm:mget τ m=.frz e l) (h:RV g w (okB X g m) (.sl τ) cv):RV g w (okB X g m) (.d (.slice e) l) cv:=by
 obtain ⟨hτ,hcv⟩:=sl_get h;have hB:=hI.ok τ;rw[hm] at hB;rw[hcv]; exact RV_one rfl hB
theorem Y8x {t:TypeId} {i:TI} {x ix:Operand} (ho:o.op=.indexAddr t x ix) (hi:TIok P t i) (hI:Inv g X m w) {τ:Nat} {e:Ty} {l:List e.T} (hm:mget τ m=.row e l) {kk:IntKind} {n:Int}
  (hx:RV g w (okB X g m) (.sl τ) (a.eval x)) (hn:RV g w (okB X g m) (.d (.int kk) n) (a.eval ix))
  (h:(bif Nat.beq i.kind 2 && Nat.beq e.size i.ety.size then req (inb n (lenL e l)) (k (.ptr τ [.row (toN n) e.size]) m g.n) else none)=some r):OpR P X o a w g m k kp r:=by
 obtain ⟨hτ,hcv⟩:=sl_get hx;obtain ⟨hb,h⟩:=Y2j h;rw[ba9] at hb;obtain ⟨h1,h2⟩:=Yft h;have hin:0 <= n/\n < (l.length:Nat):=Y8s h1;obtain ⟨el,fi,ez,k1,k2,k3,_⟩:=hi.slice (eb9 hb.1);have hB:=hI.ok τ;rw[hm] at hB;obtain ⟨b1,b2,b0⟩:=hB;have hsz:fi.size=e.size:=k3.trans (eb9 hb.2).symm;rw[b1] at hin;obtain ⟨b7,_⟩:=b0.resolve_left (fun h=>by omega);have hcv:a.eval x=.slice (some ⟨(g.loc τ).blk,(g.loc τ).base,none⟩) (g.loc τ).len (g.loc τ).cap:=by rw[hcv]; unfold Loc.sv; rw[b7]; rfl
 refine OpR.value (cv:=.pointer (some ⟨(g.loc τ).blk,(g.loc τ).base+n.toNat * e.size,none⟩)) ?_ h2 hI ?_ (Ext.refl _ _ _)
 ·unfold execOp;rw[ho];simp only[hcv,Y9b hn,Sem.run_bind,Y9c (w:=w) (cap:=(g.loc τ).cap) (b:=(g.loc τ).blk) (off:=(g.loc τ).base) (kk:=kk) k1 k2 hin,Result.andThen_ok,Sem.run_pure,hsz]
 ·have:=ptr_mk (w:=w) (ok:=okB X g m) (p:=[.row (toN n) e.size]) hτ (by
   intro s hs; simp at hs; subst hs; show toN n < _; unfold toN; omega)
  simpa[Path.off,Sel.off,toN] using this
theorem vw_get {ok:Nat->Prop} {τ lo n sz:Nat} {cv:Value} (h:RV g w ok (.vw τ lo n sz) cv):g.dom τ/\(g.loc τ).vok lo n sz cv:=by
 obtain ⟨h1,v,h2,h3⟩:=h.2 rfl;cases (List.cons.inj h2).1;exact ⟨h1,h3⟩
theorem frz_vw {τ lo n sz:Nat} {e:Ty} {l:List e.T} {cv:Value} (hI:Inv g X m w) (hm:mget τ m=.frz e l) (hsz:sz=e.size) (h:RV g w (okB X g m) (.vw τ lo n sz) cv):RV g w (okB X g m) (.d (.slice e) (cut l lo n)) cv:=by
 obtain ⟨hτ,hcv⟩:=vw_get h;have hB:=hI.ok τ;rw[hm] at hB;subst hsz;exact RV_one rfl (Y7r hB hcv)
theorem Y8z {t:TypeId} {i:TI} {x ix:Operand} (ho:o.op=.indexAddr t x ix) (hi:TIok P t i) (hI:Inv g X m w) {τ lo q sz:Nat} {e:Ty} {l:List e.T} (hm:mget τ m=.row e l) {kk:IntKind} {n:Int}
  (hx:RV g w (okB X g m) (.vw τ lo q sz) (a.eval x)) (hn:RV g w (okB X g m) (.d (.int kk) n) (a.eval ix))
  (h:(bif Nat.beq i.kind 2 && (Nat.beq e.size i.ety.size && Nat.beq sz e.size) then req (inb n q) (k (.ptr τ [.row (lo+toN n) e.size]) m g.n) else none)=some r):OpR P X o a w g m k kp r:=by
 obtain ⟨hτ,⟨v1,_⟩,ad,hcv,v3⟩:=vw_get hx;obtain ⟨hb,h⟩:=Y2j h;rw[ba9,ba9] at hb;obtain ⟨h1,h2⟩:=Yft h;have hin:0 <= n/\n < (q:Nat):=Y8s h1;obtain ⟨el,fi,ez,k1,k2,k3,_⟩:=hi.slice (eb9 hb.1);have hB:=hI.ok τ;rw[hm] at hB;obtain ⟨b1,b2,b0⟩:=hB;have hsz:fi.size=e.size:=k3.trans (eb9 hb.2.1).symm;have hsz2:=eb9 hb.2.2;subst hsz2;obtain ⟨b7,_⟩:=b0.resolve_left (fun h=>by omega);rcases v3 with ⟨n1,_⟩ | ⟨_,off,rfl,n2,_⟩
 ·rw[n1] at b7; cases b7
 ·have hoff:=n2 (by omega);refine OpR.value (cv:=.pointer (some ⟨(g.loc τ).blk,off+n.toNat * e.size,none⟩)) ?_ h2 hI ?_ (Ext.refl _ _ _)
  ·unfold execOp;rw[ho];simp only[hcv,Y9b hn,Sem.run_bind,Y9c (w:=w) (cap:=(g.loc τ).cap - lo) (b:=(g.loc τ).blk) (off:=off) (kk:=kk) k1 k2 hin,Result.andThen_ok,Sem.run_pure,hsz]
  ·have:=ptr_mk (w:=w) (ok:=okB X g m) (p:=[.row (lo+toN n) e.size]) hτ (by
    intro s hs; simp at hs; subst hs; show lo+toN n < _; unfold toN; omega)
   rw[hoff];simpa[Path.off,Sel.off,toN,Nat.add_mul,Nat.add_assoc] using this
theorem Y8w {t:TypeId} {i:TI} {x ix:Operand} (ho:o.op=.indexAddr t x ix) (hi:TIok P t i) (hI:Inv g X m w) {τ:Nat} {p:Path} {kk:IntKind} {n:Int}
  (hx:RV g w (okB X g m) (.ptr τ p) (a.eval x)) (hn:RV g w (okB X g m) (.d (.int kk) n) (a.eval ix))
  (h:(bif Nat.beq i.kind 3 then req (inb n i.alen) (k (.ptr τ (p++[.idx (toN n) i.esz i.alen])) m g.n) else
      bif Nat.beq i.kind 4 && Nat.beq i.alen i.flds.length then Y3e n i.flds 0 fun s=>k (.ptr τ (p++[s])) m g.n else none)=some r):OpR P X o a w g m k kp r:=by
 obtain ⟨k1,k2,k3⟩:=Yet hx
 have run:∀ e fi,P.underlying t=some (.array i.alen e)->P.info? e=some fi->fi.size=i.esz->0 <= n->n < i.alen ->
   (execOp a.eval o).run P w=.ok (.value (.pointer (some ⟨(g.loc τ).blk,(g.loc τ).base+Path.off p+n.toNat * i.esz,none⟩))) w:=by
  intro e fi u1 u2 u3 u4 u5;unfold execOp;rw[ho];simp[k3,Y9b hn,Instr.indexAt,asIntOf,run_underlying u1,u4,u5,sizeOf,typeInfo,u2,add_eq,Instr.sureAddr,u3]
 cases hb:Nat.beq i.kind 3 with
 | true =>
  rw[hb] at h;simp only[cond_true] at h;obtain ⟨h1,h2⟩:=Yft h;have hin:=Y8s h1;obtain ⟨e,fi,d,u1,u2,u3,_⟩:=hi.array (.inl (eb9 hb));refine OpR.value (run e fi u1 u2 u3 hin.1 hin.2) h2 hI ?_ (Ext.refl _ _ _);have:=ptr_mk (w:=w) (ok:=okB X g m) k1 (Yeq (s:=.idx (toN n) i.esz i.alen) k2 (by show toN n < i.alen; unfold toN; omega));rw[Yep] at this;simpa[Path.off,Sel.off,toN,Nat.add_assoc] using this
 | false =>
  rw[hb] at h;simp only[cond_false] at h;obtain ⟨hb4,h⟩:=Y2j h;rw[ba9] at hb4;obtain ⟨j,j1,j2,j3⟩:=Y3f _ _ h;obtain ⟨e,fi,d,u1,u2,u3,u4⟩:=hi.array (.inr (eb9 hb4.1));obtain ⟨_,_,u5⟩:=u4;obtain ⟨u6,u7⟩:=u5 j j1;have hal:=eb9 hb4.2;have hn2:n.toNat=j:=by omega
  refine OpR.value (run e fi u1 u2 u3 (by omega) (by omega)) j3 hI ?_ (Ext.refl _ _ _);have:=ptr_mk (w:=w) (ok:=okB X g m) k1 (Yeq (s:=getAt .inn i.flds j) k2 (u7 _));rw[Yep] at this;rw[hn2];simpa[Path.off,u6,Nat.add_assoc] using this
theorem Y8y {t:TypeId} {i:TI} {x ix:Operand} (ho:o.op=.indexAddr t x ix) (hi:TIok P t i) (hI:Inv g X m w) {τ:Nat} {p:Path} {q sz:Nat} {kk:IntKind} {n:Int}
  (hx:RV g w (okB X g m) (.va τ p q sz) (a.eval x)) (hn:RV g w (okB X g m) (.d (.int kk) n) (a.eval ix))
  (h:(bif Nat.beq i.kind 2 && Nat.beq sz i.ety.size then req (inb n q) (k (.ptr τ (p++[.idx (toN n) sz q])) m g.n) else none)=some r):OpR P X o a w g m k kp r:=by
 obtain ⟨hτ,hp,hcv⟩:=hx.2 rfl;have hcv:=(List.cons.inj hcv).1;obtain ⟨hb,h9⟩:=Y2j h;clear h;rw[ba9] at hb;obtain ⟨h1,h2⟩:=Yft h9;have hin:0 <= n/\n < (q:Nat):=Y8s h1;obtain ⟨el,fi,ez,k1,k2,k3,_⟩:=hi.slice (eb9 hb.1);have hsz:fi.size=sz:=k3.trans (eb9 hb.2).symm;refine OpR.value (cv:=.pointer (some ⟨(g.loc τ).blk,(g.loc τ).base+Path.off p+n.toNat * sz,none⟩)) ?_ h2 hI ?_ (Ext.refl _ _ _)
 ·unfold execOp;rw[ho];simp only[hcv,Y9b hn,Sem.run_bind,Y9c (w:=w) (cap:=q) (b:=(g.loc τ).blk) (off:=(g.loc τ).base+Path.off p) (kk:=kk) k1 k2 hin,Result.andThen_ok,Sem.run_pure,hsz]
 ·have:=ptr_mk (w:=w) (ok:=okB X g m) hτ (Yeq (s:=.idx (toN n) sz q) hp (by show toN n < q; unfold toN; omega));rw[Yep] at this;simpa[Path.off,Sel.off,toN,Nat.add_assoc] using this
theorem Y8v {t:TypeId} {i:TI} {x ix:Operand} (ho:o.op=.indexAddr t x ix) (hi:TIok P t i) (hI:Inv g X m w) (hf:FrOK g w (okB X g m) fr a.tmps)
  (h:(match ev fr x,ev fr ix with
   | .d (.slice e) l,.d (.int _) n=>bif Nat.beq i.kind 2 && Nat.beq e.size i.ety.size then req (inb n (lenL e l)) (k (.pv e (getAt e.zero l (toN n))) m g.n) else none
   | .sl τ,.d (.int _) n=>match mget τ m with
    | .row e l=>bif Nat.beq i.kind 2 && Nat.beq e.size i.ety.size then req (inb n (lenL e l)) (k (.ptr τ [.row (toN n) e.size]) m g.n) else none
    | .frz e l=>bif Nat.beq i.kind 2 && Nat.beq e.size i.ety.size then req (inb n (lenL e l)) (k (.pv e (getAt e.zero l (toN n))) m g.n) else none
    | _=>none
   | .vw τ lo q sz,.d (.int _) n=>match mget τ m with
    | .row e l=>bif Nat.beq i.kind 2 && (Nat.beq e.size i.ety.size && Nat.beq sz e.size) then req (inb n q) (k (.ptr τ [.row (lo+toN n) e.size]) m g.n) else none
    | .frz e l=>bif Nat.beq i.kind 2 && (Nat.beq e.size i.ety.size && Nat.beq sz e.size) then req (inb n (lenL e (cut l lo q))) (k (.pv e (getAt e.zero (cut l lo q) (toN n))) m g.n) else none
    | _=>none
   | .va τ p q sz,.d (.int _) n=>bif Nat.beq i.kind 2 && Nat.beq sz i.ety.size then req (inb n q) (k (.ptr τ (p++[.idx (toN n) sz q])) m g.n) else none
   | .ptr τ p,.d (.int _) n=>bif Nat.beq i.kind 3 then req (inb n i.alen) (k (.ptr τ (p++[.idx (toN n) i.esz i.alen])) m g.n) else
     bif Nat.beq i.kind 4 && Nat.beq i.alen i.flds.length then Y3e n i.flds 0 fun s=>k (.ptr τ (p++[s])) m g.n else none
   | _,_=>none)=some r):OpR P X o a w g m k kp r:=by
 have hx:=ev_ok hf x;have hn:=ev_ok hf ix;split at h
 ·rename_i hq1 hq2;rw[hq1] at hx; rw[hq2] at hn;exact Y8u ho hi hI hx hn h
 ·rename_i hq1 hq2;rw[hq1] at hx; rw[hq2] at hn;split at h
  ·rename_i hm; exact Y8x ho hi hI hm hx hn h
  ·rename_i hm; exact Y8u ho hi hI (frz_rv hI hm hx) hn h
  ·cases h
 ·rename_i hq1 hq2;rw[hq1] at hx; rw[hq2] at hn;split at h
  ·rename_i hm; exact Y8z ho hi hI hm hx hn h
  ·rename_i hm;obtain ⟨hb,h'⟩:=Y2j h;rw[ba9,ba9] at hb;exact Y8u ho hi hI (frz_vw hI hm (eb9 hb.2.2) hx) hn (by rw[hb.1,hb.2.1]; exact h')
  ·cases h
 ·rename_i hq1 hq2;rw[hq1] at hx; rw[hq2] at hn;exact Y8y ho hi hI hx hn h
 ·rename_i hq1 hq2;rw[hq1] at hx; rw[hq2] at hn;exact Y8w ho hi hI hx hn h
 ·cases h
end
end Go.Proofs.YtifbgkikkiallaaGreat.VX

