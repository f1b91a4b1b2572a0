import Derived.Test.YtifbgkikkiallaaGreatEdgesRunE5
import Derived.Laws.AppendOwn
import Derived.Laws.MakeOwn
set_option linter.unusedVariables false
set_option linter.unusedSimpArgs false
namespace Go.Proofs.YtifbgkikkiallaaGreat.VX
section
variable {P:Program} {C:Ctx} {X:Nat->Prop} {R:Type} {o:Oper} {a:Act} {w:World} {g:G} {m:Mem} {k kp:AV->Mem->Nat->Option R} {r:R} {fr:Fr}
structure ElOK (P:Program) (w:World) (size:Nat) (cv:Value) (n:Nat) (cells:List Value):Prop where
 clen:cells.length=n * size
 one:∀ v ∈ cells,v.oneCell'=true
 len:∀ w',(Builtin.lenOf cv).run P w'=.ok n w'
 first:∀ w' q,w'.heap=w.heap->q <= n->(Builtin.firstCells size q cv).run P w'=.ok (cells.take (q * size)).toArray w'
theorem Y3k {w w':World} (h:w'.heap=w.heap) (ad:Addr):w'.cell? ad=w.cell? ad:=by simp[World.cell?,h]
theorem ElOK.nil {size cap:Nat} {ad:Option Addr}:ElOK P w size (.slice ad 0 cap) 0 []:=by
 refine ⟨by simp,by simp,fun w'=>rfl,fun w' q _ hq=>?_⟩;obtain rfl:q=0:=by omega
 cases ad with
 | none=>simp[Builtin.firstCells]
 | some b=>simp[Builtin.firstCells,loadCells,loadCellsFrom]
theorem ElOK.slice {size n cap:Nat} {ad:Addr} {cells:List Value} (hl:cells.length=n * size) (h1:∀ v ∈ cells,v.oneCell'=true) (h:∀ j v,cells[j]?=some v->w.cell? (ad.add j)=some v):ElOK P w size (.slice (some ad) n cap) n cells:=by
 refine ⟨hl,h1,fun w'=>rfl,fun w' q hw hq=>?_⟩;refine run_firstCells_some w' size q ad n cap _ ?_ (fun j v hv=>?_)
 ·rw[List.length_take,hl];have:=Nat.mul_le_mul_right size hq;omega
 ·rw[Y3k hw];rw[List.getElem?_take] at hv;split at hv
  ·exact h j v hv
  ·cases hv
theorem Y1f (b o j:Nat):(⟨b,o,none⟩:Addr).add j=⟨b,o+j,none⟩:=add_eq b o j
theorem Y18 {ok:Nat->Prop} {t:Ty} {ys:List t.T} {cv:Value} (h:Rd w ok (.slice t) ys [cv]):∃ cells,RdL (Rd w ok t) ys cells/\ElOK P w t.size cv ys.length cells:=by
 obtain ⟨ad,cap,e,hle,h3⟩:=h;obtain rfl:=(List.cons.inj e).1;rcases h3 with rfl | ⟨b,cells,rfl,h4,h5⟩
 ·exact ⟨[],rfl,ElOK.nil⟩
 ·refine ⟨cells,h4,ElOK.slice (Yx (fun x cs h=>Rd_len w ok t x cs h) ys cells h4) (Y10 (fun x cs h=>Rd_one w ok t x cs h) ys cells h4) ?_⟩;obtain ⟨b',off,rfl,hc⟩:=Yhb h5;intro j v hv;rw[Y1f]; exact hc j v hv
structure RowAt (g:G) (w:World) (ok:Nat->Prop) (τ:Nat) (t:Ty) (xs:List t.T) (lo n:Nat) (cv:Value):Prop where
 fit:lo+n <= xs.length
 val:∃ ad,cv=.slice ad n ((g.loc τ).cap - lo)/\(((g.loc τ).nil=true/\ad=none/\(g.loc τ).cap=0/\xs=[]) \/
  ((g.loc τ).nil=false/\∃ off c e cells,ad=some ⟨(g.loc τ).blk,off,none⟩/\(lo < (g.loc τ).cap->off=(g.loc τ).base+lo * t.size)/\off+((g.loc τ).cap - lo) * t.size <= c.size /\
   w.heap[(g.loc τ).blk]?=some (.cells c e (0,0))/\RdL (Rd w ok t) xs cells/\(∀ (j:Nat) (v:Value),cells[j]?=some v->c[(g.loc τ).base+j]?=some v)/\(g.loc τ).base+(g.loc τ).cap * t.size <= c.size))
 len:xs.length=(g.loc τ).len
 cap:(g.loc τ).len <= (g.loc τ).cap
theorem Yg6 (hI:Inv g X m w) {τ:Nat} {t:Ty} {xs:List t.T} (hm:mget τ m=.row t xs) {cv:Value} (h:RV g w (okB X g m) (.sl τ) cv):RowAt g w (okB X g m) τ t xs 0 xs.length cv:=by
 obtain ⟨h1,h2⟩:=sl_get h;have hB:=hI.ok τ;rw[hm] at hB;obtain ⟨b1,b2,b0⟩:=hB;refine ⟨by omega,?_,b1,b2⟩;rcases b0 with ⟨n1,n2⟩ | ⟨n1,c,e,cells,b3,b4,b5,b6⟩
 ·exact ⟨none,by rw[h2]; unfold Loc.sv; rw[n1,b1]; rfl,.inl ⟨n1,rfl,n2,List.eq_nil_of_length_eq_zero (by omega)⟩⟩
 ·exact ⟨some ⟨(g.loc τ).blk,(g.loc τ).base,none⟩,by rw[h2]; unfold Loc.sv; rw[n1,b1]; rfl,.inr ⟨n1,(g.loc τ).base,c,e,cells,rfl,fun _=>by omega,by simpa using b6,b3,b4,b5,b6⟩⟩
theorem Yg7 (hI:Inv g X m w) {τ lo n:Nat} {t:Ty} {xs:List t.T} (hm:mget τ m=.row t xs) {cv:Value} (h:RV g w (okB X g m) (.vw τ lo n t.size) cv):RowAt g w (okB X g m) τ t xs lo n cv:=by
 obtain ⟨h1,⟨h2,_⟩,ad,h3,h4⟩:=vw_get h;have hB:=hI.ok τ;rw[hm] at hB;obtain ⟨b1,b2,b0⟩:=hB;refine ⟨by omega,?_,b1,b2⟩;rcases b0 with ⟨n1,n2⟩ | ⟨n1,c,e,cells,b3,b4,b5,b6⟩
 ·rcases h4 with ⟨_,rfl⟩ | ⟨q1,_⟩
  ·exact ⟨none,h3,.inl ⟨n1,rfl,n2,List.eq_nil_of_length_eq_zero (by omega)⟩⟩
  ·rw[n1] at q1; cases q1
 ·rcases h4 with ⟨q1,_⟩ | ⟨_,off,rfl,q2,q3⟩
  ·rw[n1] at q1; cases q1
  ·refine ⟨_,h3,.inr ⟨n1,off,c,e,cells,rfl,q2,?_,b3,b4,b5,b6⟩⟩;by_cases hlo:lo < (g.loc τ).cap
   ·rw[q2 hlo,Nat.sub_mul];have:=Nat.mul_le_mul_right t.size (Nat.le_of_lt hlo);omega
   ·rw[show (g.loc τ).cap - lo=0 by omega]; omega
theorem RowAt.el {ok:Nat->Prop} {τ lo n:Nat} {t:Ty} {xs:List t.T} {cv:Value} (h:RowAt g w ok τ t xs lo n cv):∃ cells,RdL (Rd w ok t) (cut xs lo n) cells/\ElOK P w t.size cv n cells:=by
 obtain ⟨ad,rfl,h3⟩:=h.val;have hf:=h.fit;have hR:=fun x cs h=>Rd_len w ok t x cs h
 by_cases hn:n=0
 ·subst hn;have:cut xs lo 0=[]:=by unfold cut; simp
  rw[this];exact ⟨[],rfl,ElOK.nil⟩
 ·rcases h3 with ⟨_,_,_,e⟩ | ⟨n1,off,c,e,cells,rfl,q1,q2,q3,q4,q5,q6⟩
  ·subst e; simp at hf; omega
  ·have hlen:=Yx hR xs cells q4;have hsp:=(Y13 hR _ _ (Y13 hR xs cells q4 lo).2 n).1;have hc:=Yx hR _ _ hsp;refine ⟨_,hsp,ElOK.slice ?_ (Y10 (fun x cs h=>Rd_one w ok t x cs h) _ _ hsp) (fun j v hv=>?_)⟩
   ·have:(cut xs lo n).length=n:=Y52 hf;unfold cut at this;rw[hc,this]
   ·rw[Y1f];rw[List.getElem?_take] at hv;split at hv
    ·rw[List.getElem?_drop] at hv;have h5:=q5 _ _ hv;have hlo:lo < (g.loc τ).cap:=by have:=h.len; have:=h.cap; omega
     simp only[World.cell?,q3,q1 hlo];rw[Nat.add_assoc]; exact h5
    ·cases hv
theorem Y30 {ok:Nat->Prop} {s:List UInt8} {cv:Value} (h:RV g w ok (.d .str s) cv):∃ cells,RdL (Rd w ok (.int .u8)) (bytesI s) cells/\ElOK P w 1 cv (bytesI s).length cells:=by
 obtain ⟨ba,rfl,hs⟩:=Yji h;have hl:(bytesI s).length=ba.size:=by unfold bytesI; rw[List.length_map,Yi3,hs]
 have hrd:∀ (l:List UInt8),RdL (Rd w ok (.int .u8)) (bytesI l) (l.map fun b=>Value.int .u8 ((b.toNat:Nat):Int)):=by
  intro l;induction l with
  | nil=>rfl
  | cons x l ih=>exact ⟨[_],_,rfl,rfl,ih⟩
 refine ⟨s.map fun b=>Value.int .u8 ((b.toNat:Nat):Int),hrd s,by simp[bytesI],?_,fun w'=>?_,fun w' q _ hq=>?_⟩
 ·intro v hv;obtain ⟨b,_,rfl⟩:=List.mem_map.1 hv;simp[Value.oneCell']
 ·rw[hl]; rfl
 ·simp only[Builtin.firstCells,Nat.mul_one,Sem.run_pure];congr 1;apply Array.toList_inj.1;simp only[Array.toList_map,List.toList_toArray];rw[<- hs,<- List.map_take];congr 1;simp[ByteArray.data_extract]
theorem Y64 (hI:Inv g X m w) {t:Ty} {v:AV} {ys:List t.T} (h:Y63 m t v=some ys) {cv:Value} (hv:RV g w (okB X g m) v cv):∃ cells,RdL (Rd w (okB X g m) t) ys cells/\ElOK P w t.size cv ys.length cells:=by
 cases v with
 | d t' zs =>
  cases t' with
  | slice t' =>
   obtain ⟨e,rfl⟩:=Y4v (show Ty.conv (.slice t') (.slice t) zs=some ys from h);cases e;exact Y18 (hv.2 rfl)
  | str =>
   obtain ⟨e,rfl⟩:=Y4v (show Ty.conv (.slice (.int .u8)) (.slice t) (bytesI zs)=some ys from h);cases e;exact Y30 hv
  | _=>cases h
 | nl =>
  cases h;obtain rfl:=(List.cons.inj (hv.2 rfl)).1;exact ⟨[],rfl,ElOK.nil⟩
 | sl τ =>
  have h':(match mget τ m with
   | .row t' ys=>Ty.conv (.slice t') (.slice t) ys
   | .frz t' ys=>Ty.conv (.slice t') (.slice t) ys
   | _=>none)=some ys:=h
  cases hm:mget τ m with
  | row t' zs =>
   rw[hm] at h';obtain ⟨e,rfl⟩:=Y4v h';cases e;obtain ⟨cells,h1,h2⟩:=(Yg6 hI hm hv).el (P:=P);have:cut zs 0 (List.length zs)=zs:=by unfold cut; simp
   rw[this] at h1;exact ⟨cells,h1,h2⟩
  | frz t' zs =>
   rw[hm] at h';obtain ⟨e,rfl⟩:=Y4v h';cases e;exact Y18 ((frz_rv hI hm hv).2 rfl)
  | _=>rw[hm] at h'; cases h'
 | vw τ lo n sz =>
  have h':(match mget τ m with
   | .row t' ys=>bif Nat.beq sz t'.size then Ty.conv (.slice t') (.slice t) (cut ys lo n) else none
   | .frz t' ys=>bif Nat.beq sz t'.size then Ty.conv (.slice t') (.slice t) (cut ys lo n) else none
   | _=>none)=some ys:=h
  cases hm:mget τ m with
  | row t' zs =>
   rw[hm] at h';obtain ⟨hb,h2⟩:=Y2j h';have hsz:=eb9 hb;subst hsz;obtain ⟨e,rfl⟩:=Y4v h2;cases e;have hr:=Yg7 hI hm hv;obtain ⟨cells,h1,h2⟩:=hr.el (P:=P);have hl:(cut zs lo n).length=n:=Y52 hr.fit;exact ⟨cells,h1,by show ElOK P w _ cv (cut zs lo n).length cells; rw[hl]; exact h2⟩
  | frz t' zs =>
   rw[hm] at h';obtain ⟨hb,h2⟩:=Y2j h';obtain ⟨e,rfl⟩:=Y4v h2;cases e;exact Y18 ((frz_vw hI hm (eb9 hb) hv).2 rfl)
  | _=>rw[hm] at h'; cases h'
 | _=>cases h
theorem Ygs (t u ty e:TypeId) (i:TypeInfo) (z:Value) (ht:P.underlying t=some (.slice e)) (hu:∃ d,P.underlying u=some d/\∀ k,d ≠ .int k) (hi:P.info? e=some i) (hz:i.zero=some z)
  (b:Option Addr) (sLen sCap n:Nat) (y:Value) (olds news:List Value) (ho:ElOK P w i.size (.slice b sLen sCap) sLen olds) (hn:ElOK P w i.size y n news)
  (hg:sCap < sLen+n) (h63:((sLen+n:Nat):Int) <= 9223372036854775807) (hfit:Builtin.nextslicecap (sLen+n) sCap * i.bytes <= 281474976710656) :
  (Builtin.append_ #[t,u] ty #[.slice b sLen sCap,y]).run P w =
   .ok (.slice (some ⟨w.heap.size,0,none⟩) (sLen+n) (grownCap w (sLen+n) sCap e))
    (w.drew.alloc (.cells (olds.toArray++news.toArray++Builtin.zeroCells z.cells (grownCap w (sLen+n) sCap e - (sLen+n))) e)):=by
 have hn':¬ (sLen+n <= sCap):=by omega
 have h63':¬ (9223372036854775807 < ((sLen:Int)+(n:Int))):=by omega
 have h48':¬ (281474976710656 < Builtin.nextslicecap (sLen+n) sCap * i.bytes):=by omega
 have hf:=hn.first w.drew n rfl (Nat.le_refl _)
 have hfo:=ho.first w.drew sLen rfl (Nat.le_refl _)
 rw[List.take_of_length_le (by rw[hn.clen]; exact Nat.le_refl _)] at hf;rw[List.take_of_length_le (by rw[ho.clen]; exact Nat.le_refl _)] at hfo;obtain ⟨d,hd1,hd2⟩:=hu;have hl:=hn.len w;have hdm:(match d with | .int _=>true | _=>false)=false:=by cases d <;> first | rfl | exact absurd rfl (hd2 _)
 simp[Builtin.append_,run_underlying ht,run_underlying hd1,sizeOf,typeInfo,zeroValue,hi,hz,hl,hn',h63',h48',Question.forced,hf,hfo,newRow,grownCap,hdm];congr 2;apply Array.ext';simp[la9]
theorem Ygu (t u ty e:TypeId) (i:TypeInfo) (ht:P.underlying t=some (.slice e)) (hu:∃ d,P.underlying u=some d/\∀ k,d ≠ .int k) (hi:P.info? e=some i)
  (blk off sLen sCap n:Nat) (y:Value) (cur:Array Value) (e':TypeId) (hg:w.heap[blk]?=some (.cells cur e' (0,0))) (news:List Value) (hn:ElOK P w i.size y n news) (hroom:sLen+n <= sCap) (hfit:off+(sLen+n) * i.size <= cur.size) :
  (Builtin.append_ #[t,u] ty #[.slice (some ⟨blk,off,none⟩) sLen sCap,y]).run P w =
   .ok (.slice (some ⟨blk,off,none⟩) (sLen+n) sCap) (w.setRow blk (cur.toList.take (off+sLen * i.size)++news++cur.toList.drop (off+sLen * i.size+news.length)).toArray):=by
 have hst:=run_storeCells_at P blk (off+sLen * i.size) e' news 0 cur w hg (by rw[hn.clen]; rw[Nat.add_mul] at hfit; omega) hn.one;simp only[Nat.add_zero] at hst;have hf:=hn.first w n rfl (Nat.le_refl _)
 rw[List.take_of_length_le (by rw[hn.clen]; exact Nat.le_refl _)] at hf;obtain ⟨d,hd1,hd2⟩:=hu;have hl:=hn.len w;have hdm:(match d with | .int _=>true | _=>false)=false:=by cases d <;> first | rfl | exact absurd rfl (hd2 _)
 simp[Builtin.append_,run_underlying ht,run_underlying hd1,sizeOf,typeInfo,hi,hl,hroom,hf,Y1f,hst,hdm]
theorem Ygt (t u ty e:TypeId) (i:TypeInfo) (ht:P.underlying t=some (.slice e)) (hu:∃ d,P.underlying u=some d/\∀ k,d ≠ .int k) (hi:P.info? e=some i)
  (sCap:Nat) (y:Value) (news:List Value) (hn:ElOK P w i.size y 0 news) :
  (Builtin.append_ #[t,u] ty #[.slice none 0 sCap,y]).run P w=.ok (.slice none 0 sCap) w:=by
 have hf:=hn.first w 0 rfl (Nat.le_refl _)
 obtain ⟨d,hd1,hd2⟩:=hu;have hl:=hn.len w;have hdm:(match d with | .int _=>true | _=>false)=false:=by cases d <;> first | rfl | exact absurd rfl (hd2 _)
 simp[Builtin.append_,run_underlying ht,run_underlying hd1,sizeOf,typeInfo,hi,hl,hf,hdm]
theorem Inv.same (hI:Inv g X m w) {w':World} (h:w'.heap=w.heap) (h1:w'.os=w.os) (h2:w'.tape=w.tape) (h3:w'.output=w.output):Inv g X m w'/\Ext g m w g m w':=by
 have hx:Ext g m w g m w':=⟨GExt.refl g,fun _ h=>.inl h,by rw[h]; exact Nat.le_refl _,fun b _ _=>by rw[h],fun b hb=>.inl hb,h1,h2,h3⟩
 refine ⟨hI.step hx (fun τ=>?_) hI.inj hI.far hI.fresh hI.dlt (MoLe.refl g m) (fun σ k=>.inl ⟨σ,k,rfl⟩),hx⟩;by_cases hd:g.dom τ
 ·exact .inl ⟨hd,rfl,fun _=>by rw[h],fun _ _=>by rw[h]⟩
 ·right; rw[hI.fresh τ hd]; trivial
theorem Yg8 (hI:Inv g X m w) {t:Ty} {v:AV} {q:Option Nat} {xs:List t.T} (h:rowFor m t v=some (q,xs)) {cv:Value} (hv:RV g w (okB X g m) v cv) :
  (q=none/\cv=.slice none 0 0/\xs=[]) \/ (∃ τ ys lo n,q=some τ/\mget τ m=.row t ys/\RowAt g w (okB X g m) τ t ys lo n cv/\xs=cut ys lo n):=by
 cases v with
 | nl=>cases h; exact .inl ⟨rfl,(List.cons.inj (hv.2 rfl)).1,rfl⟩
 | sl τ =>
  have h':(match mget τ m with
   | .row t' ys=>(match Ty.conv (.slice t') (.slice t) ys with
    | some xs=>some (some τ,xs)
    | none=>none)
   | _=>none)=some (q,xs):=h
  cases hm:mget τ m with
  | row t' zs =>
   rw[hm] at h';simp only at h';cases hc:Ty.conv (.slice t') (.slice t) zs with
   | none=>rw[hc] at h'; cases h'
   | some ys =>
    rw[hc] at h';cases h';obtain ⟨e,rfl⟩:=Y4v hc;cases e;have hr:=Yg6 hI hm hv;exact .inr ⟨τ,zs,0,zs.length,rfl,hm,hr,by unfold cut; show zs=_; simp⟩
  | _=>rw[hm] at h'; cases h'
 | vw τ lo n sz =>
  have h':(match mget τ m with
   | .row t' ys=>(bif Nat.beq sz t'.size then (match Ty.conv (.slice t') (.slice t) (cut ys lo n) with
    | some xs=>some (some τ,xs)
    | none=>none) else none)
   | _=>none)=some (q,xs):=h
  cases hm:mget τ m with
  | row t' zs =>
   rw[hm] at h';obtain ⟨hb,h2⟩:=Y2j h';have hsz:=eb9 hb;subst hsz;cases hc:Ty.conv (.slice t') (.slice t) (cut zs lo n) with
   | none=>rw[hc] at h2; cases h2
   | some ys =>
    rw[hc] at h2;cases h2;obtain ⟨e,rfl⟩:=Y4v hc;cases e;exact .inr ⟨τ,zs,lo,n,rfl,hm,Yg7 hI hm hv,rfl⟩
  | _=>rw[hm] at h'; cases h'
 | _=>cases h
theorem Yct {m0:Mem} {t:Ty} (hI:Inv g X m w) (hx0:Ext g m0 w g m w) (hrun:(execOp a.eval o).run P w=.ok (.value (.slice none 0 0)) w) (h:k (.sl g.n) ((g.n,.row t []) :: m) (g.n+1)=some r):OpR P X o a w g m0 k kp r:=by
 have hx:=Ext.fresh hI (.row t []) ⟨0,0,0,0,true⟩ rfl;refine OpR.value (g':=g.new ⟨0,0,0,0,true⟩) hrun h (hI.new _ _ hx (fun _ _=>rfl) (.inl rfl) ?_) ?_ (hx0.trans hx)
 ·refine ⟨by rw[g.new_self]; rfl,by rw[g.new_self]; exact Nat.le_refl _,.inl ⟨by rw[g.new_self],by rw[g.new_self]⟩⟩
 ·refine RV_one rfl ⟨.inr rfl,?_⟩;rw[g.new_self]; rfl
theorem Y75 {n b:Nat} (h:fits n=true) (hb:b <= 4096):n <= 4294967296/\n * b <= 140737488355328:=by
 have h1:=Nat.le_of_ble_eq_true h;refine ⟨h1,?_⟩;have h2:n * b <= 4294967296 * 4096:=Nat.mul_le_mul h1 hb;omega
theorem Y1t {c:Call} {x y:Operand} {t u:TypeId} {i j:TI} (ho:o.op=.call c) (hc:c.callee=.builtin .append) (ha:c.args.toList=[x,y]) (htt:c.argTypes.toList=[t,u]) (hi:TIok P t i) (hj:TIok P u j) (hI:Inv g X m w)
  (hf:FrOK g w (okB X g m) fr a.tmps) (hb:(Nat.beq i.kind 2 && ((Nat.beq j.kind 2 || Nat.beq j.kind 5) && Nat.ble i.bytes 4096))=true) {q:Option Nat} {xs ys:List i.ety.T} (hq:rowFor m i.ety (ev fr x)=some (q,xs))
  (hy:Y63 m i.ety (ev fr y)=some ys)
  (h1:∀ τ,q=some τ->req (fits (lenL i.ety xs+lenL i.ety ys)) (k (.sl g.n) ((g.n,.row i.ety (xs++ys)) :: (τ,.gone) :: m) (g.n+1))=some r)
  (h2:q=none->req (fits (lenL i.ety ys)) (k (.sl g.n) ((g.n,.row i.ety ys) :: m) (g.n+1))=some r):OpR P X o a w g m k kp r:=by
 simp only[ba9,Bool.or_eq_true] at hb;obtain ⟨hb1,hb2,hb3⟩:=hb;obtain ⟨e,fi,ez,k1,k2,k3,k4,k5,k6,k7,k8⟩:=hi.slice (eb9 hb1);have hby:fi.bytes <= 4096:=by rw[k4]; exact Nat.le_of_ble_eq_true hb3
 have hu:∃ d,P.underlying u=some d/\∀ k,d ≠ .int k:=by
  rcases hb2 with hb2 | hb2
  ·obtain ⟨e',_,_,q1,_⟩:=hj.slice (eb9 hb2);exact ⟨_,q1,fun k e=>by cases e⟩
  ·exact ⟨_,hj.str (eb9 hb2),fun k e=>by cases e⟩
 have hxv:=ev_ok hf x;have hyv:=ev_ok hf y;obtain ⟨news,n1,n2⟩:=Y64 (P:=P) hI hy hyv;rw[<- k3] at n2;have hez:ez.cells.size=fi.size:=by have:=Rd_len w (fun _=>True) _ _ _ (k6 w (fun _=>True)); simpa[k3] using this
 have ea:c.args=#[x,y]:=by apply Array.toList_inj.1; simpa using ha
 have et:c.argTypes=#[t,u]:=by apply Array.toList_inj.1; simpa using htt
 have fin:∀ v w',(Builtin.append_ #[t,u] o.type #[a.eval x,a.eval y]).run P w=.ok v w'->(execOp a.eval o).run P w=.ok (.value v) w':=by
  intro v w' hr;unfold execOp;simp[ho,resolve,hc,ea,et,invoke,builtin,hr]
 have hR:=fun x cs h=>Rd_len w (okB X g m) i.ety x cs h
 have grow:∀ (b:Option Addr) (sLen sCap:Nat) (olds:List Value) (m1:Mem) (zs:List i.ety.T),a.eval x=.slice b sLen sCap->ElOK P w fi.size (.slice b sLen sCap) sLen olds->sCap < sLen+ys.length->zs.length=sLen->fits (sLen+ys.length)=true ->
   Inv g X m1 w->Ext g m w g m1 w->RdL (Rd w (okB X g m1) i.ety) (zs++ys) (olds++news)->k (.sl g.n) ((g.n,.row i.ety (zs++ys)) :: m1) (g.n+1)=some r->OpR P X o a w g m k kp r:=by
  intro b sLen sCap olds m1 zs hx1 hx2 hlt hz hfit hI1 he1 hrd hk;obtain ⟨f1,f2⟩:=Y75 hfit hby;have hrun:=Ygs (w:=w) t u o.type e fi ez k1 hu k2 k5 b sLen sCap ys.length (a.eval y) olds news hx2 n2 hlt (by omega) (growslice_fits hlt f2);rw[<- hx1] at hrun;obtain ⟨hI2,he2⟩:=hI1.same (w':=w.drew) rfl rfl rfl rfl;have hge:=grownCap_ge w (sLen+ys.length) sCap e;have hl2:(zs++ys).length=sLen+ys.length:=by rw[ln9,hz]
  refine Yco (w1:=w.drew) (cs:=olds++news) hI2 (Yz (fun x cs=>Y17 he2.holds _ x cs) _ _ hrd) (fun jj v hv=>?_) (cap:=grownCap w (sLen+ys.length) sCap e) (by rw[hl2]; exact hge) ?_ (he1.trans he2) (by rw[hl2]; exact fin _ _ hrun) hk
  ·have hlt2:jj < (olds++news).length:=(List.getElem?_eq_some_iff.1 hv).1;rw[<- Array.getElem?_toList];simp only[Array.toList_append,List.toList_toArray];rw[List.getElem?_append_left hlt2]; exact hv
  ·simp only[Array.size_append,List.size_toArray,size_zeroCells,hez,hx2.clen,n2.clen,<- k3];rw[<- Nat.add_mul,<- Nat.add_mul];exact Nat.mul_le_mul_right _ (by omega)
 rcases Yg8 hI hq hxv with ⟨rfl,hcv,rfl⟩ | ⟨τ,zs,lo,n,rfl,hm,hrow,rfl⟩
 ·obtain ⟨hfit,hk⟩:=Yft (h2 rfl);by_cases h0:ys.length=0
  ·have hys:ys=[]:=List.eq_nil_of_length_eq_zero h0;subst hys;refine Yct hI (Ext.refl _ _ _) (fin _ _ ?_) hk;rw[hcv];exact Ygt t u o.type e fi k1 hu k2 0 _ news n2
  ·exact grow none 0 0 [] m [] hcv ElOK.nil (by omega) rfl (by rw[Nat.zero_add]; exact hfit) hI (Ext.refl _ _ _) (by simpa using n1) (by simpa using hk)
 ·obtain ⟨hfit,hk⟩:=Yft (h1 τ rfl);have hlv0:(mget τ m).live=true:=by rw[hm]; rfl
  have hτ:=hI.live_lt hlv0;have hcl:(cut zs lo n).length=n:=Y52 hrow.fit
  have hfit':fits (n+ys.length)=true:=by
   have:lenL i.ety (cut zs lo n)+lenL i.ety ys=n+ys.length:=by unfold lenL; rw[hcl]
   rw[<- this]; exact hfit
  obtain ⟨olds,o1,o2⟩:=hrow.el (P:=P);rw[<- k3] at o2;obtain ⟨ad,hcv,hval⟩:=hrow.val;rw[hcv] at o2;by_cases hroom:n+ys.length <= (g.loc τ).cap - lo
  ·rcases hval with ⟨p1,rfl,p3,rfl⟩ | ⟨p1,off,cc,ee,cells,rfl,p2,p3,p4,p5,p6,p7⟩
   ·have h0:ys.length=0:=by omega
    have hys:ys=[]:=List.eq_nil_of_length_eq_zero h0;have hn0:n=0:=by omega
    subst hys;have hcut:cut ([]:List i.ety.T) lo n=[]:=by unfold cut; simp
    rw[hcut] at hk;have hI1:=hI.kill τ hτ;refine Yct hI1 (Ext.kill τ) (fin _ _ ?_) hk;rw[hcv,p3,hn0,Nat.zero_sub];exact Ygt t u o.type e fi k1 hu k2 0 _ news n2
   ·have hsz:fi.size=i.ety.size:=k3;have hmul:(n+ys.length) * i.ety.size <= ((g.loc τ).cap - lo) * i.ety.size:=Nat.mul_le_mul_right _ hroom;have hrun:=Ygu (P:=P) t u o.type e fi k1 hu k2 (g.loc τ).blk off n ((g.loc τ).cap - lo) ys.length (a.eval y) cc ee p4 news n2 hroom (by rw[hsz]; omega);rw[<- hcv] at hrun;generalize hN:(cc.toList.take (off+n * fi.size)++news++cc.toList.drop (off+n * fi.size+news.length))=nc at hrun;have hnews:=n2.clen;rw[hsz] at hnews hN;rw[Nat.add_mul] at hmul
    have hncl:nc.length=cc.size:=by
     rw[<- hN]; simp only[ln9,List.length_take,List.length_drop,Array.length_toList]; omega
    have hlive:Lv g m τ:=⟨hlv0,p1⟩
    have hoth:∀ b,b ≠ (g.loc τ).blk->(w.setRow (g.loc τ).blk nc.toArray).heap[b]?=w.heap[b]?:=fun b hb=>setRow_other w _ b _ hb
    have hh':=setRow_heap w (g.loc τ).blk cc nc.toArray ee _ p4;have hs:=Yhv w (g.loc τ).blk nc.toArray;have hx':=Ext.move hI.ndom hlive (.row i.ety (cut zs lo n++ys)) ⟨(g.loc τ).blk,off,n+ys.length,(g.loc τ).cap - lo,false⟩ rfl hs hoth rfl rfl rfl;have holdl:=o2.clen;rw[hsz] at holdl;refine OpR.value (fin _ _ hrun) hk (hI.move hlive _ ⟨(g.loc τ).blk,off,n+ys.length,(g.loc τ).cap - lo,false⟩ rfl hs hoth rfl rfl rfl ?_) ?_ hx'
    ·refine ⟨by rw[g.new_self,ln9,hcl],by rw[g.new_self]; exact hroom,.inr ⟨by rw[g.new_self],nc.toArray,ee,(cells.drop (lo * i.ety.size)).take (n * i.ety.size)++news,?_,?_,?_,?_⟩⟩
     ·rw[g.new_self]; exact hh'
     ·refine Yw _ _ _ _ (Yz (fun x cs=>Y17 hx'.holds _ x cs) _ _ (Y13 hR _ _ (Y13 hR zs cells p5 lo).2 n).1) (Yz (fun x cs=>Y17 hx'.holds _ x cs) _ _ n1)
     ·rw[g.new_self];intro jj v hv;rw[List.getElem?_toArray,<- hN];have hcl2:=Yx hR zs cells p5
      have hlen1:((cells.drop (lo * i.ety.size)).take (n * i.ety.size)).length=n * i.ety.size:=by
       rw[List.length_take,List.length_drop,hcl2];have:=Nat.mul_le_mul_right i.ety.size hrow.fit;rw[Nat.add_mul] at this; omega
      have htk:(cc.toList.take (off+n * i.ety.size)).length=off+n * i.ety.size:=by
       rw[List.length_take,Array.length_toList]; omega
      by_cases hj:jj < n * i.ety.size
      ·have hn0:0 < n:=by
        rcases Nat.eq_zero_or_pos n with h | h
        ·rw[h,Nat.zero_mul] at hj; omega
        ·exact h
       rw[List.getElem?_append_left (by rw[hlen1]; exact hj),List.getElem?_take_of_lt hj,List.getElem?_drop] at hv;show (cc.toList.take (off+n * i.ety.size)++news++_)[off+jj]?=some v;rw[la9,List.getElem?_append_left (by rw[htk]; omega),List.getElem?_take_of_lt (by omega),p2 (by have:=hrow.len; have:=hrow.cap; have:=hrow.fit; omega),Nat.add_assoc];have:=p6 _ _ hv;simpa using this
      ·rw[List.getElem?_append_right (by rw[hlen1]; omega),hlen1] at hv;have hlt2:jj - n * i.ety.size < news.length:=(List.getElem?_eq_some_iff.1 hv).1;show (cc.toList.take (off+n * i.ety.size)++news++_)[off+jj]?=some v;rw[la9,List.getElem?_append_right (by rw[htk]; omega),htk,List.getElem?_append_left (by omega),show off+jj - (off+n * i.ety.size)=jj - n * i.ety.size by omega];exact hv
     ·rw[g.new_self];simp only[List.size_toArray,hncl]; exact p3
    ·refine RV_one rfl ⟨.inr rfl,?_⟩;rw[g.new_self]; rfl
  ·have hI1:=hI.kill τ hτ;refine grow ad n ((g.loc τ).cap - lo) olds ((τ,.gone) :: m) (cut zs lo n) hcv o2 (by omega) hcl hfit' hI1 (Ext.kill τ) ?_ hk;exact Yz (fun x cs=>Y17 (Ext.kill τ).holds _ x cs) _ _ (Yw _ _ _ _ o1 n1)
end
section
variable {P:Program} {C:Ctx} {X:Nat->Prop} {R:Type} {o:Oper} {a:Act} {w:World} {g:G} {m:Mem} {k kp:AV->Mem->Nat->Option R} {r:R} {fr:Fr}
def Bnd (d:Int) (v:Option Value) (n:Int):Prop:=(v=none/\n=d) \/ ∃ kk,v=some (.int kk n)
theorem Y9d {ok:Nat->Prop} (hf:FrOK g w ok fr a.tmps) {d n:Int} {x:Option Operand} (h:ioOf fr d x=some n):Bnd d (x.map a.eval) n:=by
 cases x with
 | none=>cases h; exact .inl ⟨rfl,rfl⟩
 | some x =>
  have hx:=ev_ok hf x;simp only[ioOf] at h;split at h
  ·rename_i kk q hq;cases h;rw[hq] at hx;exact .inr ⟨kk,by show some (a.eval x)=_; rw[Y9b hx]⟩
  ·cases h
theorem Yjj {l h:Int} {n:Nat} (hb:sub3 l h n=true):0 <= l/\l <= h/\h <= n:=by
 simp only[sub3,ba9,decide_eq_true_eq] at hb;exact hb
theorem Ygv (isS:Bool) {len cap:Nat} {low high:Option Value} {l h:Int} (hl:Bnd 0 low l) (hh:Bnd len high h) (hb:0 <= l/\l <= h/\h <= len) (hc:len <= cap) :
  (Instr.sliceBounds isS len cap low high none).run P w=.ok (l.toNat,h.toNat,cap) w:=by
 obtain ⟨b1,b2,b3⟩:=hb
 have e1:∀ (kk:IntKind) (code:BoundsCode),(Instr.sliceBound (.int kk h) cap code).run P w=.ok h.toNat w:=by
  intro kk code;simp[Instr.sliceBound,asIntOf,show 0 <= h/\h <= (cap:Int) by omega]
 have e2:∀ (kk:IntKind) (code:BoundsCode) (y:Nat),l <= y->(Instr.sliceBound (.int kk l) y code).run P w=.ok l.toNat w:=by
  intro kk code y hy;simp[Instr.sliceBound,asIntOf,b1,hy]
 rcases hl with ⟨rfl,rfl⟩ | ⟨kl,rfl⟩
 ·rcases hh with ⟨rfl,rfl⟩ | ⟨kh,rfl⟩
  ·simp[Instr.sliceBounds]
  ·simp[Instr.sliceBounds,e1]
 ·rcases hh with ⟨rfl,rfl⟩ | ⟨kh,rfl⟩
  ·have:=e2 kl .sliceB len (by omega);simp[Instr.sliceBounds,this]
  ·have:=e2 kl .sliceB h.toNat (by omega);simp[Instr.sliceBounds,e1,this]
theorem Yh4 {xt e:TypeId} {fi:TypeInfo} (ht:P.underlying xt=some (.slice e)) (hi:P.info? e=some fi) {ad:Option Addr} {len cap:Nat} {low high:Option Value} {l h:Int} (hl:Bnd 0 low l) (hh:Bnd len high h) (hb:0 <= l/\l <= h/\h <= len) (hc:len <= cap) :
  (Instr.slice xt (.slice ad len cap) low high none).run P w=.ok (.slice (if cap=l.toNat then ad else ad.map (·.add (l.toNat * fi.size))) (h.toNat - l.toNat) (cap - l.toNat)) w:=by
 have:=Ygv (P:=P) (w:=w) true hl hh hb hc;simp[Instr.slice,run_underlying ht,this,sizeOf,typeInfo,hi]
theorem Yh5 {xt:TypeId} (ht:P.underlying xt=some .string) {s:ByteArray} {low high:Option Value} {l h:Int} (hl:Bnd 0 low l) (hh:Bnd s.size high h) (hb:0 <= l/\l <= h/\h <= s.size) :
  (Instr.slice xt (.string s) low high none).run P w=.ok (.string (s.extract l.toNat h.toNat)) w:=by
 have:=Ygv (P:=P) (w:=w) false hl hh hb (Nat.le_refl _);simp[Instr.slice,run_underlying ht,this]
theorem Rd_cut {ok:Nat->Prop} {t:Ty} {xs:List t.T} {ad:Option Addr} {len cap:Nat} (h:Rd w ok (.slice t) xs [.slice ad len cap]) {l n:Nat} (hb:l+n <= xs.length) :
  len=xs.length/\xs.length <= cap/\Rd w ok (.slice t) (cut xs l n) [.slice (if cap=l then ad else ad.map (·.add (l * t.size))) n (cap - l)]:=by
 obtain ⟨ad',cap',e,h2,h3⟩:=h;have e:=(List.cons.inj e).1;simp only[Value.slice.injEq] at e;obtain ⟨rfl,e2,rfl⟩:=e;have hl:(cut xs l n).length=n:=Y52 hb;refine ⟨e2,h2,_,_,by rw[hl],by rw[hl]; omega,?_⟩;by_cases hn:n=0
 ·left; exact List.eq_nil_of_length_eq_zero (by rw[hl]; exact hn)
 ·right;rcases h3 with h3 | ⟨b,cells,rfl,k1,k2⟩
  ·subst h3; simp at hb; omega
  ·have hR:=fun x cs h=>Rd_len w ok t x cs h
   rw[if_neg (by omega)];obtain ⟨s1,s2,c,e',frz,s3,s4⟩:=k2;obtain ⟨bb,off,sp⟩:=b;cases s1;refine ⟨_,(cells.drop (l * t.size)).take (n * t.size),rfl,(Y13 hR _ _ (Y13 hR xs cells k1 l).2 n).1,?_⟩;simp only[Y1f];refine ⟨rfl,s2,c,e',frz,s3,fun j u hu=>?_⟩;rw[List.getElem?_take] at hu;split at hu
   ·rw[List.getElem?_drop] at hu;show c[off+l * t.size+j]?=_;rw[Nat.add_assoc];exact s4 _ _ hu
   ·cases hu
theorem Yka {L:Loc} {lo q sz:Nat} {ad:Option Addr} {len cap:Nat} (h:L.vok lo q sz (.slice ad len cap)) {l n:Nat} (hb:l+n <= q) :
  len=q/\q <= cap/\L.vok (lo+l) n sz (.slice (if cap=l then ad else ad.map (·.add (l * sz))) n (cap - l)):=by
 obtain ⟨⟨h1,hcap⟩,ad',e,h3⟩:=h;simp only[Value.slice.injEq] at e;obtain ⟨rfl,rfl,rfl⟩:=e;refine ⟨rfl,by omega,⟨by omega,hcap⟩,_,by rw[show L.cap - lo - l=L.cap - (lo+l) by omega],?_⟩;rcases h3 with ⟨n1,rfl⟩ | ⟨n1,off,rfl,q1,q2⟩
 ·exact .inl ⟨n1,by split <;> rfl⟩
 ·refine .inr ⟨n1,?_⟩;by_cases hc:L.cap - lo=l
  ·rw[if_pos hc];exact ⟨off,rfl,fun h=>by omega,q2⟩
  ·rw[if_neg hc];refine ⟨off+l * sz,by simp only[Option.map_some,Y1f],fun h=>?_,?_⟩
   ·rw[q1 (by omega),Nat.add_mul]; omega
   ·rw[q1 (by omega)];have:=Nat.mul_le_mul_right sz (show lo+l <= L.cap by omega);rw[Nat.add_mul] at this; omega
theorem Yid {t:TypeId} {i:TI} {x:Operand} {lo hi:Option Operand} (ho:o.op=.slice t x lo hi none) (hti:TIok P t i) (hI:Inv g X m w) (hf:FrOK g w (okB X g m) fr a.tmps)
  (h:sliceA i m (fun d=>ioOf fr d lo) (fun d=>ioOf fr d hi) (fun v=>k v m g.n) (ev fr x)=some r):OpR P X o a w g m k kp r:=by
 have hx:=ev_ok hf x
 have fin:∀ d v,P.underlying t=some d->(∀ n e,d ≠ .array n e)->(Instr.slice t (a.eval x) (lo.map a.eval) (hi.map a.eval) none).run P w=.ok v w->(execOp a.eval o).run P w=.ok (.value v) w:=by
  intro d v hu hd hr;unfold execOp;cases d <;> first | exact absurd rfl (hd _ _) | simp[ho,Instr.sliceAt,run_underlying hu,hr]
 have bnd:∀ {R':Type} (d:Int) (K:Int->Int->Option R') (r:R'),(match ioOf fr 0 lo,ioOf fr d hi with | some l,some h=>K l h | _,_=>none)=some r->∃ l h,Bnd 0 (lo.map a.eval) l/\Bnd d (hi.map a.eval) h/\K l h=some r:=by
  intro R' d K r hh;split at hh
  ·rename_i l h e1 e2;exact ⟨l,h,Y9d hf e1,Y9d hf e2,hh⟩
  ·cases hh
 have dat:∀ (e:Ty) (xs:List e.T),RV g w (okB X g m) (.d (.slice e) xs) (a.eval x)->(bif Nat.beq i.kind 2 && Nat.beq e.size i.ety.size then (match ioOf fr 0 lo,ioOf fr (lenL e xs) hi with
   | some l,some h=>req (sub3 l h (lenL e xs)) (k (.d (.slice e) (cut xs (toN l) (toN h - toN l))) m g.n)
   | _,_=>none) else none)=some r->OpR P X o a w g m k kp r:=by
  intro e xs hx hh;obtain ⟨hb,h1⟩:=Y2j hh;rw[ba9] at hb;obtain ⟨l,h,bl,bh,h2⟩:=bnd _ _ _ h1;obtain ⟨h3,h4⟩:=Yft h2;obtain ⟨s1,s2,s3⟩:=Yjj h3;obtain ⟨el,fi,ez,k1,k2,k3,_⟩:=hti.slice (eb9 hb.1);have hsz:fi.size=e.size:=k3.trans (eb9 hb.2).symm;have hrd:=hx.2 rfl;obtain ⟨ad,cap,e1,e2,_⟩:=id hrd;have e1:=(List.cons.inj e1).1;rw[e1] at hrd;obtain ⟨_,_,hcut⟩:=Rd_cut hrd (l:=l.toNat) (n:=h.toNat - l.toNat) (by unfold lenL at s3; omega);refine OpR.value (fin _ _ k1 (fun n e h=>by cases h) ?_) h4 hI (RV_one rfl hcut) (Ext.refl _ _ _);have hrun:=Yh4 (P:=P) (w:=w) (ad:=ad) k1 k2 bl bh ⟨s1,s2,s3⟩ e2;rw[hsz] at hrun;rw[e1]; exact hrun
 generalize hq:ev fr x=q at h hx;cases q with
 | d ty xs =>
  cases ty with
  | str =>
   have h':(bif Nat.beq i.kind 5 then (match ioOf fr 0 lo,ioOf fr (lenS xs) hi with
    | some l,some h=>req (sub3 l h (lenS xs)) (k (.d .str (cut xs (toN l) (toN h - toN l))) m g.n)
    | _,_=>none) else none)=some r:=h
   obtain ⟨hb,h1⟩:=Y2j h';obtain ⟨l,h,bl,bh,h2⟩:=bnd _ _ _ h1;obtain ⟨h3,h4⟩:=Yft h2;obtain ⟨s1,s2,s3⟩:=Yjj h3;obtain ⟨ba,e1,e2⟩:=Yji hx;have hsz:lenS xs=ba.size:=by unfold lenS; rw[Yi3,e2]
   rw[hsz] at bh s3;refine OpR.value (fin _ _ (hti.str (eb9 hb)) (fun n e h=>by cases h) ?_) h4 hI (str_mk (ba:=ba.extract l.toNat h.toNat) ?_) (Ext.refl _ _ _)
   ·rw[e1]; exact Yh5 (hti.str (eb9 hb)) bl bh ⟨s1,s2,s3⟩
   ·rw[<- e2];unfold cut toN;rw[ByteArray.data_extract];simp only[Array.toList_extract,List.extract_eq_take_drop]
  | slice e=>exact dat e xs hx h
  | _=>cases h
 | nl =>
  have h':(bif Nat.beq i.kind 2 then (match ioOf fr 0 lo,ioOf fr 0 hi with
    | some l,some h=>req (sub3 l h 0) (k .nl m g.n)
    | _,_=>none) else none)=some r:=h
  obtain ⟨hb,h1⟩:=Y2j h';obtain ⟨l,h,bl,bh,h2⟩:=bnd _ _ _ h1;obtain ⟨h3,h4⟩:=Yft h2;obtain ⟨s1,s2,s3⟩:=Yjj h3;obtain ⟨el,fi,ez,k1,k2,k3,_⟩:=hti.slice (eb9 hb);have e1:a.eval x=.slice none 0 0:=(List.cons.inj (hx.2 rfl)).1;have hl0:l=0:=by omega
  have hh0:h=0:=by omega
  subst hl0 hh0;refine OpR.value (cv:=.slice none 0 0) (fin _ _ k1 (fun n e h=>by cases h) ?_) h4 hI (RV_one rfl rfl) (Ext.refl _ _ _);rw[e1,Yh4 k1 k2 bl bh ⟨s1,s2,s3⟩ (Nat.le_refl _)];rfl
 | sl τ =>
  cases hm:mget τ m with
  | row e xs =>
   have h':(match mget τ m with
    | .row e xs=>(bif Nat.beq i.kind 2 && Nat.beq e.size i.ety.size then (match ioOf fr 0 lo,ioOf fr (lenL e xs) hi with
     | some l,some h=>req (sub3 l h (lenL e xs)) (k (.vw τ (toN l) (toN h - toN l) e.size) m g.n)
     | _,_=>none) else none)
    | .frz e xs=>(bif Nat.beq i.kind 2 && Nat.beq e.size i.ety.size then (match ioOf fr 0 lo,ioOf fr (lenL e xs) hi with
     | some l,some h=>req (sub3 l h (lenL e xs)) (k (.d (.slice e) (cut xs (toN l) (toN h - toN l))) m g.n)
     | _,_=>none) else none)
    | _=>none)=some r:=h
   rw[hm] at h';obtain ⟨hb,h1⟩:=Y2j h';rw[ba9] at hb;obtain ⟨l,h,bl,bh,h2⟩:=bnd _ _ _ h1;obtain ⟨h3,h4⟩:=Yft h2;obtain ⟨s1,s2,s3⟩:=Yjj h3;obtain ⟨el,fi,ez,k1,k2,k3,_⟩:=hti.slice (eb9 hb.1);have hsz:fi.size=e.size:=k3.trans (eb9 hb.2).symm;obtain ⟨q1,q2⟩:=sl_get hx;have hrow:=Yg6 hI hm hx;have hlen:=hrow.len;have hcap:=hrow.cap
   have hvok:(g.loc τ).vok 0 xs.length e.size (a.eval x):=by
    obtain ⟨ad,e1,e2⟩:=hrow.val;refine ⟨⟨by omega,hcap⟩,ad,e1,?_⟩;rcases e2 with ⟨n1,n2,_⟩ | ⟨n1,off,c,ee,cells,n2,n3,n4,n5,n6,n7,n8⟩
    ·exact .inl ⟨n1,n2⟩
    ·refine .inr ⟨n1,off,n2,n3,?_⟩;by_cases h0:0 < (g.loc τ).cap
     ·rw[n3 h0]; omega
     ·have hoff:off=(g.loc τ).base:=by
       rw[q2] at e1;unfold Loc.sv at e1;rw[n1,n2] at e1;simp only[cond_false,Value.slice.injEq,Option.some.injEq,Addr.mk.injEq] at e1;exact e1.1.2.1.symm
      rw[hoff]; omega
   obtain ⟨ad,e1,_⟩:=hrow.val;rw[e1] at hvok;unfold lenL at s3 bh;obtain ⟨_,_,hv⟩:=Yka hvok (l:=l.toNat) (n:=h.toNat - l.toNat) (by omega);rw[Nat.zero_add] at hv;refine OpR.value (fin _ _ k1 (fun n e h=>by cases h) ?_) h4 hI (RV_one rfl ⟨q1,_,rfl,hv⟩) (Ext.refl _ _ _);rw[e1,Yh4 k1 k2 bl bh ⟨s1,s2,s3⟩ (by omega),hsz]
  | frz e xs =>
   have h':(match mget τ m with
    | .row e xs=>(bif Nat.beq i.kind 2 && Nat.beq e.size i.ety.size then (match ioOf fr 0 lo,ioOf fr (lenL e xs) hi with
     | some l,some h=>req (sub3 l h (lenL e xs)) (k (.vw τ (toN l) (toN h - toN l) e.size) m g.n)
     | _,_=>none) else none)
    | .frz e xs=>(bif Nat.beq i.kind 2 && Nat.beq e.size i.ety.size then (match ioOf fr 0 lo,ioOf fr (lenL e xs) hi with
     | some l,some h=>req (sub3 l h (lenL e xs)) (k (.d (.slice e) (cut xs (toN l) (toN h - toN l))) m g.n)
     | _,_=>none) else none)
    | _=>none)=some r:=h
   rw[hm] at h';exact dat e xs (frz_rv hI hm hx) h'
  | _ =>
   have h':=h;simp only[sliceA,hm] at h';cases h'
 | vw τ lo' q sz =>
  have h':(bif Nat.beq i.kind 2 && Nat.beq sz i.ety.size then (match ioOf fr 0 lo,ioOf fr (q:Int) hi with
    | some l,some h=>req (sub3 l h q) (k (.vw τ (lo'+toN l) (toN h - toN l) sz) m g.n)
    | _,_=>none) else none)=some r:=h
  obtain ⟨hb,h1⟩:=Y2j h';rw[ba9] at hb;obtain ⟨l,h,bl,bh,h2⟩:=bnd _ _ _ h1;obtain ⟨h3,h4⟩:=Yft h2;obtain ⟨s1,s2,s3⟩:=Yjj h3;obtain ⟨el,fi,ez,k1,k2,k3,_⟩:=hti.slice (eb9 hb.1);have hsz:fi.size=sz:=k3.trans (eb9 hb.2).symm;obtain ⟨q1,q2⟩:=vw_get hx;obtain ⟨⟨v1,_⟩,ad,e1,v3⟩:=id q2;rw[e1] at q2;obtain ⟨_,hqc,hv⟩:=Yka q2 (l:=l.toNat) (n:=h.toNat - l.toNat) (by omega);refine OpR.value (fin _ _ k1 (fun n e h=>by cases h) ?_) h4 hI (RV_one rfl ⟨q1,_,rfl,hv⟩) (Ext.refl _ _ _);have hrun:=Yh4 (P:=P) (w:=w) (ad:=ad) k1 k2 bl bh ⟨s1,s2,s3⟩ hqc;rw[hsz] at hrun;rw[e1]; exact hrun
 | ptr τ p =>
  have h':(bif Nat.beq i.kind 3 then (match ioOf fr 0 lo,ioOf fr (i.alen:Int) hi with
    | some l,some h=>(bif eqI l 0 && eqI h i.alen then k (.va τ p i.alen i.esz) m g.n else none)
    | _,_=>none) else none)=some r:=h
  obtain ⟨hb,h1⟩:=Y2j h';obtain ⟨l,h,bl,bh,h2⟩:=bnd _ _ _ h1;obtain ⟨h3,h4⟩:=Y2j h2;rw[ba9] at h3;have e1:l=0:=by have:=h3.1; unfold eqI at this; simpa using this
  have e2:h=(i.alen:Int):=by have:=h3.2; unfold eqI at this; simpa using this
  subst e1 e2;obtain ⟨e,fi,d,u1,u2,u3,_⟩:=hti.array (.inl (eb9 hb));obtain ⟨q1,q2,q3⟩:=hx.2 rfl;have q3:=(List.cons.inj q3).1;have hbo:=Ygv (P:=P) (w:=w) false bl bh ⟨Int.le_refl _,by omega,Int.le_refl _⟩ (Nat.le_refl _);refine OpR.value (cv:=.slice (some ⟨(g.loc τ).blk,(g.loc τ).base+Path.off p,none⟩) i.alen i.alen) ?_ h4 hI ⟨fun h=>(by cases h),fun _=>⟨q1,q2,rfl⟩⟩ (Ext.refl _ _ _);unfold execOp;simp[ho,Instr.sliceAt,run_underlying u1,q3,Instr.sureAddr,hbo,sizeOf,typeInfo,u2,add_eq]
 | _=>cases h
theorem getElem!_none' {α:Type} [Inhabited α] (z:Array α) (i:Nat) (h:i < z.size):z[i]?=some z[i]! := by
 rw[getElem!_pos z i h]; exact getElem?_pos z i h
theorem Yb4 (z:Array Value) (n:Nat):(madeCells z (z.size+n)).toList=z.toList++(madeCells z n).toList:=by
 apply List.ext_getElem?
 intro j;by_cases hj:j < z.size
 ·rw[List.getElem?_append_left (by simpa using hj)];unfold madeCells;simp only[Array.getElem?_toList,Array.getElem?_map,Array.getElem?_range,Array.size_range];rw[if_pos (by omega)];simp only[Option.map_some,Nat.mod_eq_of_lt hj];exact (getElem!_none' z j hj).symm
 ·rw[List.getElem?_append_right (by simpa using hj)];unfold madeCells;simp only[Array.getElem?_toList,Array.getElem?_map,Array.getElem?_range,Array.length_toList];by_cases h2:j - z.size < n
  ·rw[if_pos (by omega),if_pos h2];simp only[Option.map_some];have:j % z.size=(j - z.size) % z.size:=Nat.mod_eq_sub_mod (by omega);rw[this]
  ·rw[if_neg (by omega),if_neg h2]
theorem Yy {ok:Nat->Prop} {t:Ty} {z:Array Value} (hz:Rd w ok t t.zero z.toList) (hs:z.size=t.size):∀ n,RdL (Rd w ok t) (List.replicate n t.zero) (madeCells z (n * t.size)).toList
 | 0=>by simp[madeCells,RdL]
 | n+1=>by
  refine ⟨z.toList,(madeCells z (n * t.size)).toList,?_,hz,Yy hz hs n⟩;rw[show (n+1) * t.size=z.size+n * t.size by rw[hs,Nat.add_mul]; omega];exact Yb4 z _
theorem Yb5 (z:Array Value) {a b:Nat} (h:a <= b):∀ (j:Nat) (v:Value),(madeCells z a).toList[j]?=some v->(madeCells z b)[j]?=some v:=by
 intro j v hv;unfold madeCells at hv ⊢;simp only[Array.getElem?_toList,Array.getElem?_map,Array.getElem?_range] at hv ⊢;split at hv
 ·rw[if_pos (by omega)]; exact hv
 ·cases hv
theorem Yba {t:TypeId} {i:TI} {x y:Operand} (ho:o.op=.makeSlice t x y) (hi:TIok P t i) (hI:Inv g X m w) {kx ky:IntKind} {n c:Int} (hx:RV g w (okB X g m) (.d (.int kx) n) (a.eval x)) (hy:RV g w (okB X g m) (.d (.int ky) c) (a.eval y))
  (h:(bif Nat.beq i.kind 2 && Nat.ble i.bytes 4096 then req (mkOK n c) (k (.sl g.n) ((g.n,.row i.ety (List.replicate (toN n) i.ety.zero)) :: m) (g.n+1)) else none)=some r):OpR P X o a w g m k kp r:=by
 obtain ⟨hb,h1⟩:=Y2j h;rw[ba9] at hb;obtain ⟨h2,h3⟩:=Yft h1;simp only[mkOK,ba9,decide_eq_true_eq] at h2;obtain ⟨n0,n1,n2⟩:=h2;obtain ⟨e,fi,ez,k1,k2,k3,k4,k5,k6,k7,k8⟩:=hi.slice (eb9 hb.1);have hby:fi.bytes <= 4096:=by rw[k4]; exact Nat.le_of_ble_eq_true hb.2
 obtain ⟨f1,f2⟩:=Y75 n2 hby;unfold toN at f1 f2;have hez:ez.cells.size=i.ety.size:=by have:=Rd_len w (fun _=>True) _ _ _ (k6 w (fun _=>True)); simpa using this
 have hby2:(fi.bytes:Int) * c <= 281474976710656:=by
  have h4:((c.toNat * fi.bytes:Nat):Int) <= 140737488355328:=by omega
  rw[Int.natCast_mul,Int.toNat_of_nonneg (by omega),Int.mul_comm] at h4;omega
 have hrun:=run_make (P:=P) w t e fi ez k1 k2 k5 kx ky n c n0 n1 hby2 (by omega);rw[<- Y9b hx,<- Y9b hy,k3] at hrun;have hl:(List.replicate n.toNat i.ety.zero).length=n.toNat:=by simp
 have hle:n.toNat * i.ety.size <= c.toNat * i.ety.size:=Nat.mul_le_mul_right _ (by omega);refine Yco (cells:=madeCells ez.cells (c.toNat * i.ety.size)) (e:=e) (cap:=c.toNat) (cs:=(madeCells ez.cells (n.toNat * i.ety.size)).toList) hI (Yy (k6 w _) hez n.toNat) (Yb5 _ hle) (by rw[hl]; omega) (by rw[size_madeCells]; exact Nat.le_refl _) (Ext.refl _ _ _) ?_ h3;rw[hl];unfold execOp;simp[ho,hrun]
theorem Y5n (hI:Inv g X m w) {t:Ty} {v:AV} {τ lo n:Nat} {xs:List t.T} (h:dstFor m t v=some (τ,lo,n,xs)) {cv:Value} (hv:RV g w (okB X g m) v cv):mget τ m=.row t xs/\RowAt g w (okB X g m) τ t xs lo n cv:=by
 cases v with
 | sl σ =>
  have h':(match mget σ m with
   | .row t' ys=>(match Ty.conv (.slice t') (.slice t) ys with
    | some xs=>some (σ,0,lenL t xs,xs)
    | none=>none)
   | _=>none)=some (τ,lo,n,xs):=h
  cases hm:mget σ m with
  | row t' zs =>
   rw[hm] at h';simp only at h';cases hc:Ty.conv (.slice t') (.slice t) zs with
   | none=>rw[hc] at h'; cases h'
   | some ys =>
    rw[hc] at h';cases h';obtain ⟨e,rfl⟩:=Y4v hc;cases e;exact ⟨hm,Yg6 hI hm hv⟩
  | _=>rw[hm] at h'; cases h'
 | vw σ lo' n' sz =>
  have h':(match mget σ m with
   | .row t' ys=>(bif Nat.beq sz t'.size then (match Ty.conv (.slice t') (.slice t) ys with
    | some xs=>some (σ,lo',n',xs)
    | none=>none) else none)
   | _=>none)=some (τ,lo,n,xs):=h
  cases hm:mget σ m with
  | row t' zs =>
   rw[hm] at h';obtain ⟨hb,h2⟩:=Y2j h';have hsz:=eb9 hb;subst hsz;cases hc:Ty.conv (.slice t') (.slice t) zs with
   | none=>rw[hc] at h2; cases h2
   | some ys =>
    rw[hc] at h2;cases h2;obtain ⟨e,rfl⟩:=Y4v hc;cases e;exact ⟨hm,Yg7 hI hm hv⟩
  | _=>rw[hm] at h'; cases h'
 | _=>cases h
theorem Ydy {α:Type} {xs ys:List α} {lo n:Nat} (h1:lo+n <= xs.length) (h2:n <= ys.length):(over xs ys lo n).length=xs.length:=by
 unfold over; simp only[ln9,List.length_take,List.length_drop]; omega
theorem Y4z {c:Call} {x y:Operand} {t u:TypeId} {i:TI} (ho:o.op=.call c) (hc:c.callee=.builtin .copy) (ha:c.args.toList=[x,y]) (htt:c.argTypes.toList=[t,u]) (hi:TIok P t i) (hI:Inv g X m w)
  (hf:FrOK g w (okB X g m) fr a.tmps) (hb:Nat.beq i.kind 2=true) {τ lo n:Nat} {xs ys:List i.ety.T} (hx:dstFor m i.ety (ev fr x)=some (τ,lo,n,xs)) (hy:Y63 m i.ety (ev fr y)=some ys)
  (h:k (.d (.int .i64) (natI (lenMin i.ety ys n))) ((τ,.row i.ety (over xs ys lo (lenMin i.ety ys n))) :: m) g.n=some r):OpR P X o a w g m k kp r:=by
 obtain ⟨e,fi,ez,k1,k2,k3,k4,k5,k6,k7,k8⟩:=hi.slice (eb9 hb);have hxv:=ev_ok hf x;have hyv:=ev_ok hf y;obtain ⟨news,n1,n2⟩:=Y64 (P:=P) hI hy hyv;obtain ⟨hm,hrow⟩:=Y5n hI hx hxv;have ea:c.args=#[x,y]:=by apply Array.toList_inj.1; simpa using ha
 have et:c.argTypes=#[t,u]:=by apply Array.toList_inj.1; simpa using htt
 have fin:∀ v w',(Builtin.copy_ #[t,u] o.type #[a.eval x,a.eval y]).run P w=.ok v w'->(execOp a.eval o).run P w=.ok (.value v) w':=by
  intro v w' hr;unfold execOp;simp[ho,resolve,hc,ea,et,invoke,builtin,hr]
 have hR:=fun x cs h=>Rd_len w (okB X g m) i.ety x cs h
 have hq:lenMin i.ety ys n <= ys.length:=Nat.min_le_left _ _;have hqn:lenMin i.ety ys n <= n:=Nat.min_le_right _ _;generalize hQ:lenMin i.ety ys n=q at *;have hmin:Nat.min ys.length n=q:=hQ;have hfit:=hrow.fit;obtain ⟨ad,hcv,hval⟩:=hrow.val;have hfst:=n2.first w q rfl hq
 have hlen:=n2.len w;have hlv0:(mget τ m).live=true:=by rw[hm]; rfl
 rcases hval with ⟨p1,rfl,p3,rfl⟩ | ⟨p1,off,cc,ee,cells,rfl,p2,p3,p4,p5,p6,p7⟩
 ·have hl0:=hrow.len;simp at hfit;have hq0:q=0:=by omega
  subst hq0;have hov:over ([]:List i.ety.T) ys lo 0=[]:=by unfold over; simp
  rw[hov] at h;have hB:=hI.ok τ
  -- the row is nil: nothing is written
  have hxx:Ext g m w g ((τ,.row i.ety []) :: m) w:=⟨GExt.refl g,fun _ h=>.inl h,Nat.le_refl _,fun _ _ _=>rfl,fun b hb=>.inl (hb.imp (fun ⟨σ,⟨q1,q1'⟩,q2⟩=>by
   rw[Ybs] at q1;by_cases e:τ=σ
   ·subst e; rw[p1] at q1'; cases q1'
   ·rw[if_neg e] at q1; exact ⟨σ,⟨q1,q1'⟩,q2⟩) (MoLe.cons (fun _=>rfl) rfl).own),rfl,rfl,rfl⟩
  have hmg:∀ σ,mget σ ((τ,.row i.ety []) :: m)=mget σ m:=by
   intro σ;rw[Ybs];split
   ·rename_i e; subst e; exact hm.symm
   ·rfl
  have hI':Inv g X ((τ,.row i.ety []) :: m) w:=by
   have lv:∀ σ,Lv g ((τ,.row i.ety []) :: m) σ ↔ Lv g m σ:=fun σ=>by unfold Lv; rw[hmg]
   refine hI.step hxx (fun σ=>?_) (fun σ σ' k1 k2 k3=>hI.inj σ σ' ((lv σ).1 k1) ((lv σ').1 k2) k3) (fun σ k1=>hI.far σ ((lv σ).1 k1)) (fun σ k1=>by rw[hmg]; exact hI.fresh σ k1) hI.dlt (MoLe.cons (fun _=>rfl) rfl) (fun σ k=>.inl ⟨σ,(lv σ).1 k,rfl⟩);by_cases hd:g.dom σ
   ·exact .inl ⟨hd,hmg σ,fun _=>rfl,fun _ _=>rfl⟩
   ·right; rw[hmg,hI.fresh σ hd]; trivial
  refine OpR.value (cv:=.int .i64 (natI 0)) (fin _ _ ?_) h hI' (int_mk _ _) hxx;simp only[Nat.zero_mul,List.take_zero] at hfst;simp[Builtin.copy_,run_underlying k1,hcv,hlen,sizeOf,typeInfo,k2,k3,hmin,hfst,goInt,natI]
 ·have hsz:fi.size=i.ety.size:=k3;have hl0:=hrow.len;have hc0:=hrow.cap
  have hnews:(news.take (q * i.ety.size)).length=q * i.ety.size:=by
   rw[List.length_take,n2.clen];have:=Nat.mul_le_mul_right i.ety.size hq;omega
  have hqm:q * i.ety.size <= ((g.loc τ).cap - lo) * i.ety.size:=Nat.mul_le_mul_right _ (by omega);have hst:=run_storeCells_at P (g.loc τ).blk off ee (news.take (q * i.ety.size)) 0 cc w p4 (by rw[hnews]; omega) (fun v hv=>n2.one v (List.mem_of_mem_take hv));simp only[Nat.add_zero] at hst;generalize hN:(cc.toList.take off++news.take (q * i.ety.size)++cc.toList.drop (off+(news.take (q * i.ety.size)).length))=nc at hst;rw[hnews] at hN
  have hncl:nc.length=cc.size:=by
   rw[<- hN]; simp only[ln9,List.length_take,List.length_drop,Array.length_toList] at hnews ⊢; omega
  have hlive:Lv g m τ:=⟨hlv0,p1⟩
  have hoth:∀ b,b ≠ (g.loc τ).blk->(w.setRow (g.loc τ).blk nc.toArray).heap[b]?=w.heap[b]?:=fun b hb=>setRow_other w _ b _ hb
  have hh':=setRow_heap w (g.loc τ).blk cc nc.toArray ee _ p4;have hs:=Yhv w (g.loc τ).blk nc.toArray;have hx':=Ext.upd (B':=.row i.ety (over xs ys lo q)) hlive hs hoth rfl rfl rfl;have hcells:=Yx hR xs cells p5;have hovl:(over xs ys lo q).length=xs.length:=Ydy (by omega) hq;have hmul1:=Nat.mul_le_mul_right i.ety.size (show lo+q <= xs.length by omega);rw[Nat.add_mul] at hmul1;refine OpR.value (cv:=.int .i64 (natI q)) (fin _ _ ?_) h (hI.upd hlive hs hoth rfl rfl rfl ?_) (int_mk _ _) hx'
  ·simp[Builtin.copy_,run_underlying k1,hcv,hlen,sizeOf,typeInfo,k2,k3,hmin,hfst,hst,goInt,natI]
  ·have hrd:RdL (Rd w (okB X g m) i.ety) (over xs ys lo q) (cells.take (lo * i.ety.size)++news.take (q * i.ety.size)++cells.drop ((lo+q) * i.ety.size)):=by
    unfold over;exact Yw _ _ _ _ (Yw _ _ _ _ (Y13 hR xs cells p5 lo).1 (Y13 hR ys news n1 q).1) (Y13 hR xs cells p5 (lo+q)).2
   refine ⟨by rw[hovl]; exact hl0,hc0,.inr ⟨p1,nc.toArray,ee,_,hh',Yz (fun x cs=>Y17 hx'.holds _ x cs) _ _ hrd,fun j v hv=>?_,by simp only[List.size_toArray,hncl]; exact p7⟩⟩;rw[List.getElem?_toArray,<- hN];by_cases hq0:q=0
   ·subst hq0;simp only[Nat.zero_mul,List.take_zero,List.append_nil,Nat.add_zero,List.take_append_drop] at hv ⊢;have:=p6 _ _ hv;simpa using this
   ·have hoff:=p2 (by omega);have htk:(cells.take (lo * i.ety.size)).length=lo * i.ety.size:=by rw[List.length_take,hcells]; omega
    have htk2:(cc.toList.take off).length=off:=by
     rw[List.length_take,Array.length_toList]; omega
    by_cases h1:j < lo * i.ety.size
    ·rw[la9,List.getElem?_append_left (by omega),List.getElem?_take_of_lt h1] at hv;rw[la9,List.getElem?_append_left (by omega),List.getElem?_take_of_lt (by omega)];have:=p6 _ _ hv;simpa using this
    ·by_cases h2:j < lo * i.ety.size+q * i.ety.size
     ·rw[la9,List.getElem?_append_right (by omega),htk,List.getElem?_append_left (by omega)] at hv;rw[la9,List.getElem?_append_right (by omega),htk2,List.getElem?_append_left (by omega),<- hv];congr 1; omega
     ·rw[List.getElem?_append_right (by rw[ln9]; omega),ln9,htk,hnews,List.getElem?_drop] at hv;rw[List.getElem?_append_right (by rw[ln9]; omega),ln9,htk2,hnews,List.getElem?_drop];have:=p6 _ _ hv;rw[Nat.add_mul] at this;rw[show off+q * i.ety.size+((g.loc τ).base+j - (off+q * i.ety.size))=(g.loc τ).base+(lo * i.ety.size+q * i.ety.size+(j - (lo * i.ety.size+q * i.ety.size))) by omega];simpa using this
theorem Ybx {c:Call} {x y:Operand} (ho:o.op=.call c) {b:Builtin} (hc:c.callee=.builtin b) (ha:c.args.toList=[x,y]) (hI:Inv g X m w) {kx ky:IntKind} {p q:Int}
  (hx:RV g w (okB X g m) (.d (.int kx) p) (a.eval x)) (hy:RV g w (okB X g m) (.d (.int ky) q) (a.eval y)) {n:Int} (hb:(b=.min/\n=min p q) \/ (b=.max/\n=max p q)) (h:k (.d (.int kx) n) m g.n=some r):OpR P X o a w g m k kp r:=by
 have ea:c.args=#[x,y]:=by apply Array.toList_inj.1; simpa using ha
 refine OpR.value (cv:=.int kx n) ?_ h hI (int_mk _ _) (Ext.refl _ _ _);rcases hb with ⟨rfl,rfl⟩ | ⟨rfl,rfl⟩
 ·have:(if q < p then q else p)=min p q:=by split <;> omega
  unfold execOp;simp[ho,resolve,hc,ea,invoke,builtin,Builtin.min_,Builtin.min2,Y9b hx,Y9b hy,this]
 ·have:(if q > p then q else p)=max p q:=by split <;> omega
  unfold execOp;simp[ho,resolve,hc,ea,invoke,builtin,Builtin.max_,Builtin.max2,Y9b hx,Y9b hy,this]
end
end Go.Proofs.YtifbgkikkiallaaGreat.VX

