import Derived.Test.YtifbgkikkiallaaGreatEdgesRunE1
import Derived.Laws.StructEq
import Derived.ChangeKeysEq
set_option linter.unusedVariables false
set_option linter.unusedSimpArgs false
namespace Go.Proofs.YtifbgkikkiallaaGreat.VX
def Y9e:TypeDesc->Bool
 | .struct _ | .array _ _=>true
 | _=>false
def fitFs (P:Program) (f:TypeId->Ty->Bool):List Field->Ty->Nat->Bool
 | [],_,_=>false
 | [fd],ty,off=>(fd.name != "_") && (Nat.beq fd.offset off && f fd.type ty)
 | fd :: fd2 :: l,.pair a b,off=>(fd.name != "_") && (Nat.beq fd.offset off && (f fd.type a && fitFs P f (fd2 :: l) b (off+a.size)))
 | _ :: _ :: _,_,_=>false
def fitB (P:Program):Nat->TypeId->Ty->Bool
 | 0,_,_=>false
 | d+1,t,ty=>match P.info? t,P.underlying t with
  | some fi,some ds=>Nat.beq fi.size ty.size && (match ds,ty with
   | .bool,.bool=>true
   | .int k,.int k'=>Nat.beq (kno k) (kno k')
   | .string,.str=>true
   | .struct fs,.one a=>!P.stoodInHeld t && (Nat.beq fs.toList.length 1 && fitFs P (fitB P d) fs.toList a 0)
   | .struct fs,.pair a b=>!P.stoodInHeld t && (Nat.blt 1 fs.toList.length && fitFs P (fitB P d) fs.toList (.pair a b) 0)
   | .array n e,.arr m a=>Nat.beq n m && fitB P d e a
   | _,_=>false)
  | _,_=>false
section
variable {P:Program}
theorem Y72 {d:Nat} {t:TypeId} {ty:Ty} (h:fitB P d t ty=true):∃ fi ds,P.info? t=some fi/\P.underlying t=some ds/\fi.size=ty.size/\Y9e ds=ty.isAgg:=by
 cases d with
 | zero=>cases h
 | succ d =>
  simp only[fitB] at h;split at h
  ·rename_i fi ds h1 h2;rw[ba9] at h;refine ⟨fi,ds,h1,h2,eb9 h.1,?_⟩;have h3:=h.2;split at h3 <;> first | rfl | cases h3
  ·cases h
def DV (ty:Ty) (x:ty.T) (v:Value):Prop:=∃ g w ok,RV g w ok (.d ty x) v
theorem Ye8 {t:TypeId} {ty:Ty} {d:Nat} (hf:fitB P d t ty=true) (w0:World) {cs:Array Value} {c0 c1 c2:List Value} (hc:cs.toList=c0++c1++c2) {x:ty.T} {g:G} {w:World} {ok:Nat->Prop} (hx:Rd w ok ty x c1) :
  ∃ cv,(part t cs c0.length).run P w0=.ok cv w0/\RV g w ok (.d ty x) cv:=by
 obtain ⟨fi,ds,h1,h2,h3,h4⟩:=Y72 hf
 have hag:(isAgg t).run P w0=.ok ty.isAgg w0:=by
  unfold isAgg;rw[Sem.run_bind,run_underlying h2 w0];cases ds <;> simp_all[Y9e]
 have hsz:(sizeOf t).run P w0=.ok fi.size w0:=by simp[sizeOf,typeInfo,h1]
 have hl:=Rd_len w ok ty x c1 hx;cases ha:ty.isAgg with
 | true =>
  rw[ha] at hag;refine ⟨.agg (cs.extract c0.length (c0.length+fi.size)),by simp[part,hag,hsz],fun _=>⟨c1,?_,hx⟩,fun e=>by have e:ty.isAgg=false:=e; rw[ha] at e; cases e⟩;congr 1;apply Array.toList_inj.1;rw[Array.toList_extract,hc];simp only[List.extract_eq_take_drop,Nat.add_sub_cancel_left];rw[la9,List.drop_left,List.take_append_of_le_length (by omega),List.take_of_length_le (by omega)]
 | false =>
  rw[ha] at hag;have h1:ty.size=1:=by cases ty <;> first | rfl | cases ha
  match c1,hl.trans h1 with
  | [u],_ =>
   refine ⟨u,?_,fun e=>(by have e:ty.isAgg=true:=e; rw[ha] at e; cases e),fun _=>hx⟩
   have:cs[c0.length]?=some u:=by
    have h2:cs.toList[c0.length]?=some u:=by rw[hc]; simp
    simpa using h2
   simp[part,hag,this]
theorem Y2f {α:Type} (f:α->α->Bool) (a b:α) (l m:List α):Ty.beqL f (a :: l) (b :: m)=(f a b && Ty.beqL f l m):=rfl
mutual
theorem eqF_ok (d D:Nat) (hD:∀ t ty,fitB P d t ty=true->∀ w0 x y cx cy,DV ty x cx->DV ty y cy->(Op.equalIn D t cx cy).run P w0=.ok (ty.beq x y) w0):∀ (fs:List Field) (ty:Ty) (off:Nat) (w0:World),fitFs P (fitB P d) fs ty off=true ->
  ∀ (xs ys:Array Value) (x y:ty.T) (c0 c1 c2 d0 d1 d2:List Value) (w w':World) (ok ok':Nat->Prop),xs.toList=c0++c1++c2->ys.toList=d0++d1++d2->c0.length=off->d0.length=off->Rd w ok ty x c1->Rd w' ok' ty y d1 ->
  (Op.eqFields D xs ys fs).run P w0=.ok (ty.beq x y) w0
 | [],ty,off,w0,h=>by cases h
 | [fd],ty,off,w0,h=>by
  intro xs ys x y c0 c1 c2 d0 d1 d2 w w' ok ok' hx hy h0 h0' rx ry;have h:((fd.name != "_") && (Nat.beq fd.offset off && fitB P d fd.type ty))=true:=h;simp only[ba9] at h;obtain ⟨n1,n2,n3⟩:=h;have n1:fd.name ≠ "_":=by simpa using n1
  have n2:=eb9 n2
  let g0:G:=⟨fun _=>default,0,fun _=>False,fun _=>none,fun _ _=>default⟩
  obtain ⟨cx,p1,p2⟩:=Ye8 (g:=g0) n3 w0 hx rx;obtain ⟨cy,q1,q2⟩:=Ye8 (g:=g0) n3 w0 hy ry;have he:=hD _ _ n3 w0 x y cx cy ⟨_,_,_,p2⟩ ⟨_,_,_,q2⟩;rw[Op.eqFields,if_pos n1];simp only[Sem.run_bind,n2,<- h0,p1,Result.andThen_ok];rw[h0,<- h0',q1];simp only[Result.andThen_ok,he];cases ty.beq x y <;> simp[Op.eqFields]
 | fd :: fd2 :: l,ty,off,w0,h=>by
  intro xs ys x y c0 c1 c2 d0 d1 d2 w w' ok ok' hx hy h0 h0' rx ry;cases ty with
  | pair a b =>
   have h:((fd.name != "_") && (Nat.beq fd.offset off && (fitB P d fd.type a && fitFs P (fitB P d) (fd2 :: l) b (off+a.size))))=true:=h;simp only[ba9] at h;obtain ⟨n1,n2,n3,n4⟩:=h;have n1:fd.name ≠ "_":=by simpa using n1
   have n2:=eb9 n2;obtain ⟨e1,e2,e3,r1,r2⟩:=rx;obtain ⟨f1,f2,f3,s1,s2⟩:=ry;subst e3 f3
   let g0:G:=⟨fun _=>default,0,fun _=>False,fun _=>none,fun _ _=>default⟩
   obtain ⟨cx,p1,p2⟩:=Ye8 (g:=g0) n3 w0 (c0:=c0) (c1:=e1) (c2:=e2++c2) (by rw[hx]; simp) r1;obtain ⟨cy,q1,q2⟩:=Ye8 (g:=g0) n3 w0 (c0:=d0) (c1:=f1) (c2:=f2++d2) (by rw[hy]; simp) s1;have he:=hD _ _ n3 w0 x.1 y.1 cx cy ⟨_,_,_,p2⟩ ⟨_,_,_,q2⟩;rw[Op.eqFields,if_pos n1];simp only[Sem.run_bind,n2,<- h0,p1,Result.andThen_ok];rw[h0,<- h0',q1];simp only[Result.andThen_ok,he];have l1:=Rd_len _ _ _ _ _ r1;have l2:=Rd_len _ _ _ _ _ s1;have ih:=eqF_ok d D hD (fd2 :: l) b (off+a.size) w0 n4 xs ys x.2 y.2 (c0++e1) e2 c2 (d0++f1) f2 d2 w w' ok ok' (by rw[hx]; simp) (by rw[hy]; simp) (by rw[ln9,h0,l1]) (by rw[ln9,h0',l2]) r2 s2;have hb:(Ty.pair a b).beq x y=(a.beq x.1 y.1 && b.beq x.2 y.2):=rfl;rw[hb];cases a.beq x.1 y.1 with
   | false=>simp
   | true=>simpa using ih
  | _=>cases h
end
theorem eqI_ok (d D:Nat) {e:TypeId} {a:Ty} (hf:fitB P d e a=true) (hD:∀ w0 x y cx cy,DV a x cx->DV a y cy->(Op.equalIn D e cx cy).run P w0=.ok (a.beq x y) w0) (w0:World) {fi:TypeInfo} (hi:P.info? e=some fi) (hs:fi.size=a.size) (xs ys:Array Value) {w w':World} {ok ok':Nat->Prop} :
  ∀ (l m:List a.T) (k:Nat) (c0 c1 d0 d1:List Value),xs.toList=c0++c1->ys.toList=d0++d1->c0.length=k * a.size->d0.length=k * a.size->RdL (Rd w ok a) l c1->RdL (Rd w' ok' a) m d1->l.length=m.length ->
  (Op.eqItems D e fi.size xs ys ((List.range l.length).map (·+k))).run P w0=.ok (Ty.beqL a.beq l m) w0
 | [],[],k,c0,c1,d0,d1,_,_,_,_,_,_,_=>by simp[Op.eqItems,Ty.beqL]
 | x :: l,y :: m,k,c0,c1,d0,d1,hx,hy,h0,h0',rx,ry,hl=>by
  obtain ⟨e1,e2,e3,r1,r2⟩:=rx;obtain ⟨f1,f2,f3,s1,s2⟩:=ry;subst e3 f3
  let g0:G:=⟨fun _=>default,0,fun _=>False,fun _=>none,fun _ _=>default⟩
  obtain ⟨cx,p1,p2⟩:=Ye8 (g:=g0) hf w0 (c0:=c0) (c1:=e1) (c2:=e2) (by rw[hx]; simp) r1;obtain ⟨cy,q1,q2⟩:=Ye8 (g:=g0) hf w0 (c0:=d0) (c1:=f1) (c2:=f2) (by rw[hy]; simp) s1;have he:=hD w0 x y cx cy ⟨_,_,_,p2⟩ ⟨_,_,_,q2⟩;have l1:=Rd_len _ _ _ _ _ r1;have l2:=Rd_len _ _ _ _ _ s1;have ih:=eqI_ok d D hf hD w0 hi hs xs ys l m (k+1) (c0++e1) e2 (d0++f1) f2 (by rw[hx]; simp) (by rw[hy]; simp) (by rw[ln9,h0,l1,Nat.add_mul]; omega) (by rw[ln9,h0',l2,Nat.add_mul]; omega) r2 s2 (by simpa using hl)
  have hrange:(List.range (x :: l).length).map (·+k)=k :: (List.range l.length).map (·+(k+1)):=by
   rw[List.length_cons,List.range_succ_eq_map,List.map_cons,List.map_map];simp only[Nat.zero_add,List.cons.injEq,true_and];apply List.map_congr_left;intro i _; simp only[Function.comp]; omega
  rw[hrange,Op.eqItems];rw[hs] at *;simp only[Sem.run_bind,<- h0,p1,Result.andThen_ok];rw[h0,<- h0',q1];simp only[Result.andThen_ok,he];rw[Y2f];cases a.beq x y with
  | false=>simp
  | true=>simpa using ih
 | [],_ :: _,_,_,_,_,_,_,_,_,_,_,_,hl=>by cases hl
 | _ :: _,[],_,_,_,_,_,_,_,_,_,_,_,hl=>by cases hl
theorem Y5p {x:Bool} {v:Value} (h:DV .bool x v):v=.bool x:=by obtain ⟨g,w,ok,h⟩:=h; exact (List.cons.inj (h.2 rfl)).1
theorem dv_int {k:IntKind} {x:Int} {v:Value} (h:DV (.int k) x v):v=.int k x:=by obtain ⟨g,w,ok,h⟩:=h; exact (List.cons.inj (h.2 rfl)).1
theorem dv_str {x:List UInt8} {v:Value} (h:DV .str x v):∃ ba:ByteArray,v=.string ba/\ba.data.toList=x:=by
 obtain ⟨g,w,ok,h⟩:=h;obtain ⟨ba,e,h2⟩:=h.2 rfl;exact ⟨ba,(List.cons.inj e).1,h2⟩
theorem Y71:∀ (d:Nat) (t:TypeId) (ty:Ty),fitB P d t ty=true->∀ (D:Nat),d <= D->∀ w0 x y cx cy,DV ty x cx->DV ty y cy->(Op.equalIn D t cx cy).run P w0=.ok (ty.beq x y) w0
 | 0,t,ty,h,_,_=>by cases h
 | d+1,t,ty,h,0,hD=>by omega
 | d+1,t,ty,h,D+1,hD=>by
  intro w0 x y cx cy hx hy;simp only[fitB] at h;split at h
  ·rename_i fi ds h1 h2;rw[ba9] at h;have h3:=h.2;have ih:∀ t ty,fitB P d t ty=true->∀ w0 x y cx cy,DV ty x cx->DV ty y cy->(Op.equalIn D t cx cy).run P w0=.ok (ty.beq x y) w0:=fun t ty ht=>Y71 d t ty ht D (by omega)
   split at h3
   ·rw[Y5p hx,Y5p hy]; exact run_equalIn_bool w0 D t _ _ h2
   ·rename_i k k';have:=Y9t h3;subst this;rw[dv_int hx,dv_int hy]; exact run_equalIn_int w0 D t _ _ _ _ h2
   ·obtain ⟨a,rfl,ha⟩:=dv_str hx;obtain ⟨b,rfl,hb⟩:=dv_str hy;rw[run_equalIn_string w0 D t a b h2];congr 1;have e:Ty.beq .str x y=((a.data.toList:List UInt8) == b.data.toList):=by rw[ha,hb]; rfl
    rw[e,ByteArray.toList_eq,ByteArray.toList_eq]
   ·rename_i fs a;simp only[ba9,Bool.not_eq_true'] at h3;obtain ⟨k1,k2,k3⟩:=h3;obtain ⟨g,w,ok,hx⟩:=hx;obtain ⟨g',w',ok',hy⟩:=hy;obtain ⟨cs,rfl,rx⟩:=hx.1 rfl;obtain ⟨cs',rfl,ry⟩:=hy.1 rfl;have hu:P.fieldsOf t=fs:=by unfold Program.fieldsOf; rw[h2]
    rw[run_equalIn_struct w0 D t _ _ (by rw[hu]; exact h2) k1,hu];have:=eqF_ok d D ih fs.toList a 0 w0 k3 cs.toArray cs'.toArray x y [] cs [] [] cs' [] w w' ok ok' (by simp) (by simp) rfl rfl rx ry;exact this
   ·rename_i fs a b;simp only[ba9,Bool.not_eq_true'] at h3;obtain ⟨k1,k2,k3⟩:=h3;obtain ⟨g,w,ok,hx⟩:=hx;obtain ⟨g',w',ok',hy⟩:=hy;obtain ⟨cs,rfl,rx⟩:=hx.1 rfl;obtain ⟨cs',rfl,ry⟩:=hy.1 rfl;have hu:P.fieldsOf t=fs:=by unfold Program.fieldsOf; rw[h2]
    rw[run_equalIn_struct w0 D t _ _ (by rw[hu]; exact h2) k1,hu];exact eqF_ok d D ih fs.toList (.pair a b) 0 w0 k3 cs.toArray cs'.toArray x y [] cs [] [] cs' [] w w' ok ok' (by simp) (by simp) rfl rfl rx ry
   ·rename_i n e m a;rw[ba9] at h3;have hn:=eb9 h3.1;subst hn;obtain ⟨fi',ds',q1,q2,q3,q4⟩:=Y72 h3.2;obtain ⟨g,w,ok,hx⟩:=hx;obtain ⟨g',w',ok',hy⟩:=hy;obtain ⟨cs,rfl,rx⟩:=hx.1 rfl;obtain ⟨cs',rfl,ry⟩:=hy.1 rfl;have hco:P.cellsOf e=fi'.size:=by unfold Program.cellsOf; rw[q1]; rfl
    rw[run_equalIn_array w0 D _ _ h2 q1,hco];have hl1:List.length (α:=a.T) x=n:=rx.1;have hl2:List.length (α:=a.T) y=n:=ry.1;have:=eqI_ok d D h3.2 (fun w0 x y cx cy=>ih e a h3.2 w0 x y cx cy) w0 q1 q3 cs.toArray cs'.toArray x y 0 [] cs [] cs' (by simp) (by simp) (by simp) (by simp) rx.2 ry.2 (by rw[hl1,hl2]);rw[hl1] at this;have e:(List.range n).map (·+0)=List.range n:=by simp
    rw[e] at this;exact this
   ·cases h3
  ·cases h
theorem Rd_det:∀ (ty:Ty) (x:ty.T) (cs cs':List Value) {w w':World} {ok ok':Nat->Prop},ty.hasSlice=false->Rd w ok ty x cs->Rd w' ok' ty x cs'->cs=cs'
 | .int k,x,cs,cs',w,w',ok,ok',_,h,h'=>by cases h; cases h'; rfl
 | .bool,x,cs,cs',w,w',ok,ok',_,h,h'=>by cases h; cases h'; rfl
 | .str,x,cs,cs',w,w',ok,ok',_,⟨a,e,ha⟩,⟨b,e',hb⟩=>by
  subst e e'
  have:a=b:=by
   cases a; cases b;congr 1;exact Array.toList_inj.1 (ha.trans hb.symm)
  rw[this]
 | .pair a b,x,cs,cs',w,w',ok,ok',hs,⟨c1,c2,e,h1,h2⟩,⟨d1,d2,e',k1,k2⟩=>by
  simp only[Ty.hasSlice,Bool.or_eq_false_iff] at hs;subst e e';rw[Rd_det a x.1 c1 d1 hs.1 h1 k1,Rd_det b x.2 c2 d2 hs.2 h2 k2]
 | .one a,x,cs,cs',w,w',ok,ok',hs,h,h'=>Rd_det a x cs cs' hs h h'
 | .slice t,x,cs,cs',w,w',ok,ok',hs,_,_=>by cases hs
 | .arr n a,x,cs,cs',w,w',ok,ok',hs,⟨_,h⟩,⟨_,h'⟩=>by
  have key:∀ (l:List a.T) (cs cs':List Value),RdL (Rd w ok a) l cs->RdL (Rd w' ok' a) l cs'->cs=cs':=by
   intro l;induction l with
   | nil=>intro cs cs' h h'; cases h; cases h'; rfl
   | cons z l ih =>
    rintro cs cs' ⟨c1,c2,e,h1,h2⟩ ⟨d1,d2,e',k1,k2⟩;subst e e';rw[Rd_det a z c1 d1 hs h1 k1,ih c2 d2 h2 k2]
  exact key x cs cs' h h'
theorem beq_eq:∀ (ty:Ty) (x y:ty.T),ty.hasSlice=false->ty.beq x y=true->x=y
 | .int k,(x:Int),(y:Int),_,h=>eq_of_beq (α:=Int) h
 | .bool,(x:Bool),(y:Bool),_,h=>eq_of_beq (α:=Bool) h
 | .str,(x:List UInt8),(y:List UInt8),_,h=>eq_of_beq (α:=List UInt8) h
 | .pair a b,x,y,hs,h=>by
  simp only[Ty.hasSlice,Bool.or_eq_false_iff] at hs;have h:(a.beq x.1 y.1 && b.beq x.2 y.2)=true:=h;rw[ba9] at h;exact Prod.ext (beq_eq a _ _ hs.1 h.1) (beq_eq b _ _ hs.2 h.2)
 | .one a,x,y,hs,h=>beq_eq a x y hs h
 | .slice t,x,y,hs,_=>by cases hs
 | .arr n a,x,y,hs,h=>by
  have key:∀ (l m:List a.T),Ty.beqL a.beq l m=true->l=m:=by
   intro l;induction l with
   | nil=>intro m h; cases m with
    | nil=>rfl
    | cons _ _=>cases h
   | cons z l ih =>
    intro m h;cases m with
    | nil=>cases h
    | cons u m =>
     have h:(a.beq z u && Ty.beqL a.beq l m)=true:=h;rw[ba9] at h;rw[beq_eq a z u hs h.1,ih m h.2]
  exact key x y h
theorem beq_refl:∀ (ty:Ty) (x:ty.T),ty.hasSlice=false->ty.beq x x=true
 | .int k,(x:Int),_=>by show (x == x)=true; simp
 | .bool,(x:Bool),_=>by show (x == x)=true; simp
 | .str,(x:List UInt8),_=>by show (x == x)=true; simp
 | .pair a b,x,hs=>by
  simp only[Ty.hasSlice,Bool.or_eq_false_iff] at hs;show (a.beq x.1 x.1 && b.beq x.2 x.2)=true;rw[beq_refl a _ hs.1,beq_refl b _ hs.2]; rfl
 | .one a,x,hs=>beq_refl a x hs
 | .slice t,x,hs=>by cases hs
 | .arr n a,x,hs=>by
  have key:∀ (l:List a.T),Ty.beqL a.beq l l=true:=by
   intro l;induction l with
   | nil=>rfl
   | cons z l ih=>show (a.beq z z && Ty.beqL a.beq l l)=true; rw[beq_refl a z hs,ih]; rfl
  exact key x
theorem dv_det {ty:Ty} {x:ty.T} {v v':Value} (hs:ty.hasSlice=false) (h:DV ty x v) (h':DV ty x v'):v=v':=by
 obtain ⟨g,w,ok,h⟩:=h;obtain ⟨g',w',ok',h'⟩:=h';cases ha:ty.isAgg with
 | true =>
  obtain ⟨ds,e,h1⟩:=h.1 ha;obtain ⟨ds',e',h1'⟩:=h'.1 ha;rw[e,e',Rd_det ty x ds ds' hs h1 h1']
 | false=>exact (List.cons.inj (Rd_det ty x _ _ hs (h.2 ha) (h'.2 ha))).1
theorem Y15:∀ (ty:Ty) (x:ty.T) (cs:List Value) {w:World} {ok:Nat->Prop},ty.hasSlice=false->Rd w ok ty x cs->∀ v ∈ cs,(∃ k n,v=.int k n) \/ (∃ b,v=.bool b) \/ ∃ s,v=.string s
 | .int k,x,cs,w,ok,_,h=>by cases h; intro v hv; simp at hv; exact .inl ⟨_,_,hv⟩
 | .bool,x,cs,w,ok,_,h=>by cases h; intro v hv; simp at hv; exact .inr (.inl ⟨_,hv⟩)
 | .str,x,cs,w,ok,_,⟨a,e,_⟩=>by subst e; intro v hv; simp at hv; exact .inr (.inr ⟨_,hv⟩)
 | .pair a b,x,cs,w,ok,hs,⟨c1,c2,e,h1,h2⟩=>by
  simp only[Ty.hasSlice,Bool.or_eq_false_iff] at hs;subst e;intro v hv;rcases List.mem_append.1 hv with hv | hv
  ·exact Y15 a x.1 c1 hs.1 h1 v hv
  ·exact Y15 b x.2 c2 hs.2 h2 v hv
 | .one a,x,cs,w,ok,hs,h=>Y15 a x cs hs h
 | .slice t,x,cs,w,ok,hs,_=>by cases hs
 | .arr n a,x,cs,w,ok,hs,⟨_,h⟩=>by
  have key:∀ (l:List a.T) (cs:List Value),RdL (Rd w ok a) l cs->∀ v ∈ cs,(∃ k n,v=.int k n) \/ (∃ b,v=.bool b) \/ ∃ s,v=.string s:=by
   intro l;induction l with
   | nil=>intro cs h; cases h; simp
   | cons z l ih =>
    rintro cs ⟨c1,c2,e,h1,h2⟩ v hv;subst e;rcases List.mem_append.1 hv with hv | hv
    ·exact Y15 a z c1 hs h1 v hv
    ·exact ih c2 h2 v hv
  exact key x cs h
theorem Yh7 {ty:Ty} {x:ty.T} {v:Value} (hs:ty.hasSlice=false) (h:DV ty x v):Instr.sameBits 10000 v v=true:=by
 have flat:∀ (n:Nat) (u:Value),((∃ k n,u=.int k n) \/ (∃ b,u=.bool b) \/ ∃ s,u=.string s)->Instr.sameBits n u u=true:=by
  rintro n u (⟨k,m,rfl⟩ | ⟨b,rfl⟩ | ⟨s,rfl⟩)
  ·cases n <;> simp[Instr.sameBits]
  ·cases n <;> simp[Instr.sameBits]
  ·cases n <;> simp[Instr.sameBits,beq_toListBytes]
 obtain ⟨g,w,ok,h⟩:=h;cases ha:ty.isAgg with
 | true =>
  obtain ⟨ds,e,h1⟩:=h.1 ha;subst e;have hf:=Y15 ty x ds hs h1;show ((ds.toArray.size == ds.toArray.size) && (ds.toArray.toList.zip ds.toArray.toList).all fun (x,y)=>Instr.sameBits 9999 x y)=true;simp only[beq_self_eq_true,Bool.true_and,List.all_eq_true];rintro ⟨a,b⟩ hab
  have:a=b/\a ∈ ds:=by
   simp only[List.zip_eq_zipWith] at hab;clear hf h1 h;induction ds with
   | nil=>simp at hab
   | cons z l ih =>
    simp only[List.zipWith_cons_cons,List.mem_cons,Prod.mk.injEq] at hab;rcases hab with ⟨rfl,rfl⟩ | hab
    ·exact ⟨rfl,List.mem_cons_self ..⟩
    ·obtain ⟨h1,h2⟩:=ih hab; exact ⟨h1,List.mem_cons_of_mem _ h2⟩
  obtain ⟨rfl,hm⟩:=this;exact flat _ _ (hf a hm)
 | false =>
  have h1:=h.2 ha;exact flat _ _ (Y15 ty x [v] hs h1 v (by simp))
theorem Yj7 {ty:Ty} {x y:ty.T} {v u:Value} (hs:ty.hasSlice=false) (hx:DV ty x v) (hy:DV ty y u) (hb:ty.beq x y=true) (w0:World):(Instr.keyThatStays u v).run P w0=.ok v w0/\u=v:=by
 have e:=beq_eq ty x y hs hb;subst e;have:=dv_det hs hx hy;subst this;refine ⟨?_,rfl⟩;unfold Instr.keyThatStays;rw[if_pos (Yh7 hs hx)];rfl
def Ty.noArr:Ty->Bool
 | .pair a b=>a.noArr && b.noArr
 | .one a=>a.noArr
 | .arr _ _ | .slice _=>false
 | _=>true
theorem Ycu:∀ (ty:Ty),ty.noArr=true->ty.hasSlice=false
 | .pair a b,h=>by
  simp only[Ty.noArr,ba9] at h;simp only[Ty.hasSlice,Ycu a h.1,Ycu b h.2,Bool.or_self]
 | .one a,h=>Ycu a h
 | .int _,_=>rfl
 | .bool,_=>rfl
 | .str,_=>rfl
 | .arr _ _,h=>by cases h
 | .slice _,h=>by cases h
theorem chk_ok:∀ (d:Nat) (t:TypeId) (ty:Ty),ty.noArr=true->fitB P d t ty=true->∀ (D:Nat),d <= D->∀ (em:Bool) (w0:World) (x:ty.T) (cx:Value),DV ty x cx->(Instr.checkKey em D t cx).run P w0=.ok () w0
 | 0,t,ty,hna,h,_,_=>by cases h
 | d+1,t,ty,hna,h,0,hD=>by omega
 | d+1,t,ty,hna,h,D+1,hD=>by
  intro em w0 x cx hx;simp only[fitB] at h;split at h
  ·rename_i fi ds h1 h2;rw[ba9] at h;have h3:=h.2;have ih:∀ t ty,ty.noArr=true->fitB P d t ty=true->∀ w0 x cx,DV ty x cx->(Instr.checkKey em D t cx).run P w0=.ok () w0:=fun t ty hn ht w0 x cx hx=>chk_ok d t ty hn ht D (by omega) em w0 x cx hx
   have flds:∀ (fs:List Field) (ty:Ty) (off:Nat),ty.noArr=true->fitFs P (fitB P d) fs ty off=true->∀ (w0:World) (xs:Array Value) (x:ty.T) (c0 c1 c2:List Value) (w:World) (ok:Nat->Prop),xs.toList=c0++c1++c2->c0.length=off->Rd w ok ty x c1 ->
     (forIn fs PUnit.unit (fun (f:Field) (_:PUnit)=>(do
      if f.name ≠ "_" then Instr.checkKey em D f.type (<- part f.type xs f.offset)
      pure (ForInStep.yield PUnit.unit):Sem (ForInStep PUnit)))).run P w0=.ok PUnit.unit w0:=by
    intro fs;induction fs with
    | nil=>intro ty off _ h; cases h
    | cons fd l ihl =>
     intro ty off hna hfs w0 xs x c0 c1 c2 w ok hxs h0 rx;cases l with
     | nil =>
      have hfs:((fd.name != "_") && (Nat.beq fd.offset off && fitB P d fd.type ty))=true:=hfs;simp only[ba9] at hfs;obtain ⟨n1,n2,n3⟩:=hfs;have n1:fd.name ≠ "_":=by simpa using n1
      have n2:=eb9 n2
      let g0:G:=⟨fun _=>default,0,fun _=>False,fun _=>none,fun _ _=>default⟩
      obtain ⟨cx,p1,p2⟩:=Ye8 (g:=g0) n3 w0 hxs rx;have he:=ih _ _ hna n3 w0 x cx ⟨_,_,_,p2⟩;simp only[List.forIn_cons,Sem.run_bind,if_pos n1,n2,<- h0,p1,Result.andThen_ok,he,Sem.run_pure];simp
     | cons fd2 l =>
      cases ty with
      | pair a b =>
       have hfs:((fd.name != "_") && (Nat.beq fd.offset off && (fitB P d fd.type a && fitFs P (fitB P d) (fd2 :: l) b (off+a.size))))=true:=hfs;simp only[ba9] at hfs;obtain ⟨n1,n2,n3,n4⟩:=hfs;have n1:fd.name ≠ "_":=by simpa using n1
       have n2:=eb9 n2;obtain ⟨e1,e2,e3,r1,r2⟩:=rx;subst e3
       let g0:G:=⟨fun _=>default,0,fun _=>False,fun _=>none,fun _ _=>default⟩
       obtain ⟨cx,p1,p2⟩:=Ye8 (g:=g0) n3 w0 (c0:=c0) (c1:=e1) (c2:=e2++c2) (by rw[hxs]; simp) r1;simp only[Ty.noArr,ba9] at hna;have he:=ih _ _ hna.1 n3 w0 x.1 cx ⟨_,_,_,p2⟩;have l1:=Rd_len _ _ _ _ _ r1;have:=ihl b (off+a.size) hna.2 n4 w0 xs x.2 (c0++e1) e2 c2 w ok (by rw[hxs]; simp) (by rw[ln9,h0,l1]) r2;rw[List.forIn_cons];simp only[Sem.run_bind,if_pos n1,n2,<- h0,p1,Result.andThen_ok,he,Sem.run_pure];exact this
      | _=>cases hfs
   split at h3
   ·simp[Instr.checkKey,run_underlying h2]
   ·simp[Instr.checkKey,run_underlying h2]
   ·simp[Instr.checkKey,run_underlying h2]
   ·rename_i fs a;simp only[ba9,Bool.not_eq_true'] at h3;obtain ⟨k1,k2,k3⟩:=h3;obtain ⟨g,w,ok,hx⟩:=hx;obtain ⟨cs,rfl,rx⟩:=hx.1 rfl;have:=flds fs.toList a 0 hna k3 w0 cs.toArray x [] cs [] w ok (by simp) rfl rx;simp only[Instr.checkKey,Sem.run_bind,run_underlying h2,Result.andThen_ok];rw[<- Array.forIn_toList];rw[this]; rfl
   ·rename_i fs a b;simp only[ba9,Bool.not_eq_true'] at h3;obtain ⟨k1,k2,k3⟩:=h3;obtain ⟨g,w,ok,hx⟩:=hx;obtain ⟨cs,rfl,rx⟩:=hx.1 rfl;have:=flds fs.toList (.pair a b) 0 hna k3 w0 cs.toArray x [] cs [] w ok (by simp) rfl rx;simp only[Instr.checkKey,Sem.run_bind,run_underlying h2,Result.andThen_ok];rw[<- Array.forIn_toList];rw[this]; rfl
   ·cases hna
   ·cases h3
  ·cases h
theorem Yb3 {κ α:Type} {eq:κ->κ->Bool} {x:κ} {z:α}:∀ {l:List (κ × α)} {k i:Nat},mIdx eq x l k=some i->k <= i/\∃ p,l[i - k]?=some p/\eq x p.1=true/\mlook eq z x l=p.2/\mhas eq x l=true/\mpos eq x l=i - k/\∀ v,mput eq x v l=l.set (i - k) (x,v)
 | [],k,i,h=>by cases h
 | p :: l,k,i,h=>by
  simp only[mIdx] at h;cases hb:eq x p.1 with
  | true =>
   rw[hb] at h; cases h;exact ⟨Nat.le_refl _,p,by simp,hb,by simp[mlook,hb],by simp[mhas,hb],by simp[mpos,hb],fun v=>by simp[mput,hb]⟩
  | false =>
   rw[hb] at h;obtain ⟨h1,q,h2,h3,h4,h5,h6,h7⟩:=Yb3 (z:=z) h;have e:i - k=(i - (k+1))+1:=by omega
   refine ⟨by omega,q,by rw[e]; simpa using h2,h3,by simp[mlook,hb,h4],by simp[mhas,hb,h5],by simp[mpos,hb,h6]; omega,fun v=>by rw[e]; simp[mput,hb,h7]⟩
theorem Yb2 {κ α:Type} {eq:κ->κ->Bool} {x:κ} {z:α}:∀ {l:List (κ × α)} {k:Nat},mIdx eq x l k=none->mlook eq z x l=z/\mhas eq x l=false/\mpos eq x l=l.length/\∀ v,mput eq x v l=l++[(x,v)]
 | [],k,h=>⟨rfl,rfl,rfl,fun v=>rfl⟩
 | p :: l,k,h=>by
  simp only[mIdx] at h;cases hb:eq x p.1 with
  | true=>rw[hb] at h; cases h
  | false =>
   rw[hb] at h;obtain ⟨h4,h5,h6,h7⟩:=Yb2 (z:=z) h;exact ⟨by simp[mlook,hb,h4],by simp[mhas,hb,h5],by simp[mpos,hb,h6],fun v=>by simp[mput,hb,h7]⟩
structure KeyOK (P:Program) (t:TypeId) (kt:Ty):Prop where
 sl:kt.hasSlice=false
 chk:∀ em w0 x cx,DV kt x cx->(Instr.checkKey em 10000 t cx).run P w0=.ok () w0
 find:∀ {vt:Ty} (w0:World) (x:kt.T) (cx:Value) (l:List (kt.T × vt.T)) (es:List MapEntry),DV kt x cx->es.length=l.length->(∀ (i:Nat) (e:MapEntry) (p:kt.T × vt.T),es[i]?=some e->l[i]?=some p->DV kt p.1 e.key) ->
  (Instr.findKey t cx es).run P w0=.ok ((mIdx kt.beq x l 0).map fun i=>(i,(es.getD i default).val)) w0
def keyB (P:Program) (t:TypeId) (kt:Ty):Bool:=kt.noArr && fitB P 100 t kt
theorem ask_ok {P:Program} {t:TypeId} {kt vt:Ty} (heq:∀ w0 x y cx cy,DV kt x cx->DV kt y cy->(Op.equal t cx cy).run P w0=.ok (kt.beq x y) w0) {x:kt.T} {cx:Value} (hx:DV kt x cx) (w0:World):∀ (l:List (kt.T × vt.T)) (es es0:List MapEntry) (k:Nat),es=es0.drop k->es.length=l.length ->
  (∀ (i:Nat) (e:MapEntry) (p:kt.T × vt.T),es[i]?=some e->l[i]?=some p->DV kt p.1 e.key)->(Instr.findAsking t cx es k).run P w0=.ok ((mIdx kt.beq x l k).map fun i=>(i,(es0.getD i default).val)) w0
 | [],[],es0,k,_,_,_=>by simp[Instr.findAsking,mIdx]
 | p :: l,e :: es,es0,k,hd,hl,hk=>by
  have h1:=heq w0 x p.1 cx e.key hx (hk 0 e p rfl rfl)
  have hd0:es0[k]?=some e:=by
   have:(es0.drop k)[0]?=some e:=by rw[<- hd]; rfl
   simpa using this
  simp only[Instr.findAsking,Sem.run_bind,h1,Result.andThen_ok,mIdx];cases kt.beq x p.1 with
  | true=>simp[hd0,List.getD_eq_getElem?_getD]
  | false =>
   have:=ask_ok heq hx w0 l es es0 (k+1) (by rw[<- List.tail_drop,<- hd]; rfl) (by simpa using hl) (fun i e' p' h1 h2=>hk (i+1) e' p' (by simpa using h1) (by simpa using h2));simpa using this
 | [],_ :: _,_,_,_,hl,_=>by cases hl
 | _ :: _,[],_,_,_,hl,_=>by cases hl
theorem now_ok {kt vt:Ty} {d:TypeDesc} {x:kt.T} {cx:Value} (h:∀ y cy,DV kt y cy->Instr.sameNow d cx cy=some (kt.beq x y)):∀ (l:List (kt.T × vt.T)) (es es0:List MapEntry) (k:Nat),es=es0.drop k->es.length=l.length ->
  (∀ (i:Nat) (e:MapEntry) (p:kt.T × vt.T),es[i]?=some e->l[i]?=some p->DV kt p.1 e.key)->Instr.findNow d cx es k=some ((mIdx kt.beq x l k).map fun i=>(i,(es0.getD i default).val))
 | [],[],es0,k,_,_,_=>rfl
 | p :: l,e :: es,es0,k,hd,hl,hk=>by
  have h1:=h p.1 e.key (hk 0 e p rfl rfl)
  have hd0:es0[k]?=some e:=by
   have:(es0.drop k)[0]?=some e:=by rw[<- hd]; rfl
   simpa using this
  simp only[Instr.findNow,h1,mIdx];cases kt.beq x p.1 with
  | true=>simp[hd0,List.getD_eq_getElem?_getD]
  | false =>
   have:=now_ok h l es es0 (k+1) (by rw[<- List.tail_drop,<- hd]; rfl) (by simpa using hl) (fun i e' p' h1 h2=>hk (i+1) e' p' (by simpa using h1) (by simpa using h2));simpa using this
 | [],_ :: _,_,_,_,hl,_=>by cases hl
 | _ :: _,[],_,_,_,hl,_=>by cases hl
theorem Y9q {P:Program} {t:TypeId} {kt:Ty} (h:keyB P t kt=true):KeyOK P t kt:=by
 unfold keyB at h;rw[ba9] at h;obtain ⟨hna,hf⟩:=h;refine ⟨Ycu kt hna,fun em w0 x cx hx=>chk_ok 100 t kt hna hf 10000 (by omega) em w0 x cx hx,?_⟩;intro vt w0 x cx l es hx hl hk;have heq:∀ w0 x y cx cy,DV kt x cx->DV kt y cy->(Op.equal t cx cy).run P w0=.ok (kt.beq x y) w0:=fun w0 x y cx cy h1 h2=>Y71 100 t kt hf 10000 (by omega) w0 x y cx cy h1 h2
 have ask:=ask_ok (vt:=vt) heq hx w0 l es es 0 rfl hl hk;obtain ⟨fi,ds,i1,i2,i3,i4⟩:=Y72 hf
 have now:(∀ y cy,DV kt y cy->Instr.sameNow ds cx cy=some (kt.beq x y))->(Instr.findKey t cx es).run P w0=.ok ((mIdx kt.beq x l 0).map fun i=>(i,(es.getD i default).val)) w0:=by
  intro hs;have:=now_ok (vt:=vt) hs l es es 0 rfl hl hk;simp only[Instr.findKey,Sem.run_bind,run_underlying i2,Result.andThen_ok,this,Sem.run_pure]
 have slow:(∀ v,Instr.sameNow ds cx v=none)->(Instr.findKey t cx es).run P w0=.ok ((mIdx kt.beq x l 0).map fun i=>(i,(es.getD i default).val)) w0:=by
  intro hs;cases es with
  | nil =>
   cases l with
   | nil=>simp[Instr.findKey,run_underlying i2,Instr.findNow,mIdx]
   | cons _ _=>cases hl
  | cons e es =>
   have:Instr.findNow ds cx (e :: es) 0=none:=by simp[Instr.findNow,hs]
   simp only[Instr.findKey,Sem.run_bind,run_underlying i2,Result.andThen_ok,this];exact ask
 clear ask heq;have hf2:∃ d,fitB P (d+1) t kt=true:=⟨99,hf⟩
 clear hf;obtain ⟨dd,hf⟩:=hf2;simp only[fitB,i1,i2] at hf;rw[ba9] at hf;have h3:=hf.2;split at h3
 ·refine now (fun y cy hy=>?_);rw[Y5p hx,Y5p hy]; rfl
 ·rename_i k k';have:=Y9t h3;subst this;refine now (fun y cy hy=>?_);rw[dv_int hx,dv_int hy];show (if _ then _ else _)=_;rw[if_pos rfl]; rfl
 ·refine now (fun y cy hy=>?_);obtain ⟨a,rfl,ha⟩:=dv_str hx;obtain ⟨b,rfl,hb⟩:=dv_str hy;show some (a == b)=_;congr 1;have e:Ty.beq .str x y=((a.data.toList:List UInt8) == b.data.toList):=by rw[ha,hb]; rfl
  rw[e,beq_toListBytes,ByteArray.toList_eq,ByteArray.toList_eq]
 ·exact slow (fun v=>rfl)
 ·exact slow (fun v=>rfl)
 ·cases hna
 ·cases h3
end
end Go.Proofs.YtifbgkikkiallaaGreat.VX

