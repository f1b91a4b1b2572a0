import Derived.Test.YtifbgkikkiallaaGreatEdgesRunE0
import Derived.Below
import Derived.Laws.AppendOwn
set_option linter.unusedVariables false
set_option linter.unusedSimpArgs false
namespace Go.Proofs.YtifbgkikkiallaaGreat.VX
def Seg (w:World) (ok:Nat->Prop) (ad:Addr) (cs:List Value):Prop :=
 ad.spot=none/\ok ad.block/\∃ c e fr,w.heap[ad.block]?=some (.cells c e fr)/\∀ j v,cs[j]?=some v->c[ad.off+j]?=some v
def RdL {α:Type} (R:α->List Value->Prop):List α->List Value->Prop
 | [],cs=>cs=[]
 | x :: xs,cs=>∃ c1 c2,cs=c1++c2/\R x c1/\RdL R xs c2
def Rd (w:World) (ok:Nat->Prop):(t:Ty)->t.T->List Value->Prop
 | .int k,n,cs=>cs=[.int k n]
 | .bool,b,cs=>cs=[.bool b]
 | .str,s,cs=>∃ ba:ByteArray,cs=[.string ba]/\ba.data.toList=s
 | .pair a b,x,cs=>∃ c1 c2,cs=c1++c2/\Rd w ok a x.1 c1/\Rd w ok b x.2 c2
 | .one a,x,cs=>Rd w ok a x cs
 | .slice t,l,cs=>∃ (a:Option Addr) (cap:Nat),cs=[.slice a (l:List t.T).length cap]/\(l:List t.T).length <= cap /\
   ((l:List t.T)=[] \/ ∃ ad cells,a=some ad/\RdL (Rd w ok t) l cells/\Seg w ok ad cells)
 | .arr n t,l,cs=>(l:List t.T).length=n/\RdL (Rd w ok t) l cs
theorem Yx {α:Type} {R:α->List Value->Prop} {n:Nat} (h:∀ x cs,R x cs->cs.length=n):∀ xs cs,RdL R xs cs->cs.length=xs.length * n
 | [],cs,e=>by cases e; simp
 | x :: xs,cs,⟨c1,c2,e,h1,h2⟩=>by
  subst e;rw[ln9,h x c1 h1,Yx h xs c2 h2,List.length_cons,Nat.add_mul]; omega
theorem Rd_len (w:World) (ok:Nat->Prop):∀ (t:Ty) (x:t.T) (cs:List Value),Rd w ok t x cs->cs.length=t.size
 | .int k,n,cs,h=>by cases h; rfl
 | .bool,b,cs,h=>by cases h; rfl
 | .str,s,cs,⟨ba,h,_⟩=>by cases h; rfl
 | .pair a b,x,cs,⟨c1,c2,e,h1,h2⟩=>by
  subst e; rw[ln9,Rd_len w ok a _ _ h1,Rd_len w ok b _ _ h2]; rfl
 | .one a,x,cs,h=>Rd_len w ok a x cs h
 | .slice t,l,cs,⟨a,cap,e,_⟩=>by subst e; rfl
 | .arr n t,l,cs,⟨hl,h⟩=>by
  rw[Yx (fun x cs h=>Rd_len w ok t x cs h) l cs h];show List.length (α:=t.T) l * _=_;rw[hl]; rfl
theorem Yz {α:Type} {R S:α->List Value->Prop} (h:∀ x cs,R x cs->S x cs):∀ xs cs,RdL R xs cs->RdL S xs cs
 | [],cs,e=>e
 | x :: xs,cs,⟨c1,c2,e,h1,h2⟩=>⟨c1,c2,e,h x c1 h1,Yz h xs c2 h2⟩
theorem RdL_at {α:Type} {R:α->List Value->Prop} {n:Nat} (h:∀ x cs,R x cs->cs.length=n):∀ (xs:List α) (cs:List Value),RdL R xs cs->∀ (i:Nat) (z:α),i < xs.length ->
  R (getAt z xs i) ((cs.drop (i * n)).take n)
 | [],cs,_,i,z,hi=>absurd hi (Nat.not_lt_zero _)
 | x :: xs,cs,⟨c1,c2,e,h1,h2⟩,0,z,hi=>by
  subst e;simp only[Nat.zero_mul,List.drop_zero];rw[List.take_append_of_le_length (by rw[h x c1 h1]; omega),List.take_of_length_le (by rw[h x c1 h1]; omega)];exact h1
 | x :: xs,cs,⟨c1,c2,e,h1,h2⟩,i+1,z,hi=>by
  subst e;have hl:=h x c1 h1;rw[List.drop_append,List.drop_of_length_le (by rw[hl,Nat.add_mul]; omega),List.nil_append,hl,show (i+1) * n - n=i * n by rw[Nat.add_mul]; omega];exact RdL_at h xs c2 h2 i z (by simpa using hi)
theorem Y13 {α:Type} {R:α->List Value->Prop} {n:Nat} (h:∀ x cs,R x cs->cs.length=n):∀ (xs:List α) (cs:List Value),RdL R xs cs->∀ (i:Nat),
  RdL R (xs.take i) (cs.take (i * n))/\RdL R (xs.drop i) (cs.drop (i * n))
 | xs,cs,hx,0=>by simp only[Nat.zero_mul,List.take_zero,List.drop_zero]; exact ⟨rfl,hx⟩
 | [],cs,e,i+1=>by cases e; simp[RdL]
 | x :: xs,cs,⟨c1,c2,e,h1,h2⟩,i+1=>by
  subst e;have hl:=h x c1 h1;have hn:(i+1) * n=n+i * n:=by rw[Nat.add_mul]; omega
  obtain ⟨k1,k2⟩:=Y13 h xs c2 h2 i;refine ⟨⟨c1,c2.take (i * n),?_,h1,k1⟩,?_⟩
  ·rw[List.take_append,hl,hn,List.take_of_length_le (by omega),show n+i * n - n=i * n by omega]
  ·have e:(c1++c2).drop ((i+1) * n)=c2.drop (i * n):=by
    rw[List.drop_append,hl,hn,List.drop_of_length_le (by omega),show n+i * n - n=i * n by omega,List.nil_append]
   show RdL R (xs.drop i) _;rw[e]; exact k2
theorem Yw {α:Type} {R:α->List Value->Prop}:∀ (xs ys:List α) (cs ds:List Value),RdL R xs cs->RdL R ys ds->RdL R (xs++ys) (cs++ds)
 | [],ys,cs,ds,e,h=>by cases e; exact h
 | x :: xs,ys,cs,ds,⟨c1,c2,e,h1,h2⟩,h=>by
  subst e;exact ⟨c1,c2++ds,by simp,h1,Yw xs ys c2 ds h2 h⟩
theorem Y12 {α:Type} {R:α->List Value->Prop} {n:Nat} (h:∀ x cs,R x cs->cs.length=n):∀ (xs:List α) (cs:List Value),RdL R xs cs->∀ (i:Nat) (y:α) (ds:List Value),i < xs.length->R y ds ->
  RdL R (xs.set i y) (cs.take (i * n)++ds++cs.drop (i * n+n))
 | [],cs,_,i,y,ds,hi,_=>absurd hi (Nat.not_lt_zero _)
 | x :: xs,cs,⟨c1,c2,e,h1,h2⟩,0,y,ds,hi,hy=>by
  subst e;refine ⟨ds,c2,?_,hy,h2⟩;simp only[Nat.zero_mul,List.take_zero,List.nil_append,Nat.zero_add];rw[List.drop_append,h x c1 h1,List.drop_of_length_le (by rw[h x c1 h1]; omega)]; simp
 | x :: xs,cs,⟨c1,c2,e,h1,h2⟩,i+1,y,ds,hi,hy=>by
  subst e;have hl:=h x c1 h1;have hn:(i+1) * n=n+i * n:=by rw[Nat.add_mul]; omega
  refine ⟨c1,c2.take (i * n)++ds++c2.drop (i * n+n),?_,h1,Y12 h xs c2 h2 i y ds (by simpa using hi) hy⟩;rw[List.take_append,List.drop_append,hl,hn,List.take_of_length_le (by omega),List.drop_of_length_le (by omega),show n+i * n - n=i * n by omega,show n+i * n+n - n=i * n+n by omega];simp
def Holds (w:World) (ok:Nat->Prop) (w':World) (ok':Nat->Prop):Prop:=∀ b,ok b->(∃ c e fr,w.heap[b]?=some (.cells c e fr))->ok' b/\w'.heap[b]?=w.heap[b]?
theorem Y1b {w w':World} {ok ok':Nat->Prop} (h:Holds w ok w' ok') {ad:Addr} {cs:List Value} (hs:Seg w ok ad cs):Seg w' ok' ad cs:=by
 obtain ⟨h1,h2,c,e,fr,h3,h4⟩:=hs;obtain ⟨h5,h6⟩:=h _ h2 ⟨_,_,_,h3⟩;exact ⟨h1,h5,c,e,fr,h6.trans h3,h4⟩
theorem Y17 {w w':World} {ok ok':Nat->Prop} (h:Holds w ok w' ok'):∀ (t:Ty) (x:t.T) (cs:List Value),Rd w ok t x cs->Rd w' ok' t x cs
 | .int k,n,cs,h1=>h1
 | .bool,b,cs,h1=>h1
 | .str,s,cs,h1=>h1
 | .pair a b,x,cs,⟨c1,c2,e,h1,h2⟩=>⟨c1,c2,e,Y17 h a _ _ h1,Y17 h b _ _ h2⟩
 | .one a,x,cs,h1=>Y17 h a x cs h1
 | .slice t,l,cs,⟨a,cap,e,hl,h1⟩=>⟨a,cap,e,hl,h1.imp id fun ⟨ad,cells,e,h2,h3⟩=>⟨ad,cells,e,Yz (fun x cs=>Y17 h t x cs) _ _ h2,Y1b h h3⟩⟩
 | .arr n t,l,cs,⟨hl,h1⟩=>⟨hl,Yz (fun x cs=>Y17 h t x cs) _ _ h1⟩
theorem Y10 {α:Type} {R:α->List Value->Prop} (h:∀ x cs,R x cs->∀ v ∈ cs,v.oneCell'=true):∀ xs cs,RdL R xs cs->∀ v ∈ cs,v.oneCell'=true
 | [],cs,e=>by cases e; simp
 | x :: xs,cs,⟨c1,c2,e,h1,h2⟩=>by
  subst e;intro v hv;rcases List.mem_append.1 hv with hv | hv
  ·exact h x c1 h1 v hv
  ·exact Y10 h xs c2 h2 v hv
theorem Rd_one (w:World) (ok:Nat->Prop):∀ (t:Ty) (x:t.T) (cs:List Value),Rd w ok t x cs->∀ v ∈ cs,v.oneCell'=true
 | .int k,n,cs,h=>by cases h; simp[Value.oneCell']
 | .bool,b,cs,h=>by cases h; simp[Value.oneCell']
 | .str,s,cs,⟨ba,h,_⟩=>by cases h; simp[Value.oneCell']
 | .pair a b,x,cs,⟨c1,c2,e,h1,h2⟩=>by
  subst e;intro v hv;rcases List.mem_append.1 hv with hv | hv
  ·exact Rd_one w ok a _ _ h1 v hv
  ·exact Rd_one w ok b _ _ h2 v hv
 | .one a,x,cs,h=>Rd_one w ok a x cs h
 | .slice t,l,cs,⟨a,cap,e,_⟩=>by subst e; simp[Value.oneCell']
 | .arr n t,l,cs,⟨hl,h⟩=>Y10 (fun x cs h=>Rd_one w ok t x cs h) l cs h
structure Loc where
 blk:Nat
 base:Nat
 len:Nat
 cap:Nat
 nil:Bool:=false
 deriving Inhabited
def Loc.sv (L:Loc):Value:=.slice (bif L.nil then none else some ⟨L.blk,L.base,none⟩) L.len L.cap
def Loc.vok (L:Loc) (lo n sz:Nat) (v:Value):Prop:=(lo+n <= L.len/\L.len <= L.cap)/\∃ ad,v=.slice ad n (L.cap - lo) /\
 ((L.nil=true/\ad=none) \/ (L.nil=false/\∃ o,ad=some ⟨L.blk,o,none⟩/\(lo < L.cap->o=L.base+lo * sz)/\o <= L.base+L.cap * sz))
structure RT where
 ps:Array Tmp
 as:Code
 body:Code
 nt:Nat
structure G where
 loc:Nat->Loc
 n:Nat
 dom:Nat->Prop
 rt:Nat->Option RT
 sub:Nat->Nat->Loc:=fun _ _=>default
def Sel.ok (len:Nat):Sel->Prop
 | .idx i _ n=>i < n
 | .row i _=>i < len
 | _=>True
def pathOK (len:Nat) (p:Path):Prop:=∀ s ∈ p,s.ok len
def Sel.off:Sel->Nat
 | .fld _ _ o=>o
 | .inn=>0
 | .idx i sz _=>i * sz
 | .row i sz=>i * sz
def Path.off:Path->Nat
 | []=>0
 | s :: p=>s.off+Path.off p
mutual
def RC (g:G) (w:World) (ok:Nat->Prop):AV->List Value->Prop
 | .d t x,cs=>Rd w ok t x cs
 | .pr a b,cs=>∃ c1 c2,cs=c1++c2/\RC g w ok a c1/\RC g w ok b c2
 | .one a,cs=>RC g w ok a cs
 | .nl,cs=>cs=[.slice none 0 0]
 | .sl τ,cs=>g.dom τ/\cs=[(g.loc τ).sv]
 | .vw τ lo n sz,cs=>g.dom τ/\∃ v,cs=[v]/\(g.loc τ).vok lo n sz v
 | .ptr τ p,cs=>g.dom τ/\pathOK (g.loc τ).len p/\cs=[.pointer (some ⟨(g.loc τ).blk,(g.loc τ).base+Path.off p,none⟩)]
 | .va τ p n _,cs=>g.dom τ/\pathOK (g.loc τ).len p/\cs=[.slice (some ⟨(g.loc τ).blk,(g.loc τ).base+Path.off p,none⟩) n n]
 | .nilp,cs=>cs=[.pointer none]
 | .pv t x,cs=>∃ ad cells,cs=[.pointer (some ad)]/\Rd w ok t x cells/\Seg w ok ad cells
 | .mp τ,cs=>g.dom τ/\cs=[.map (some (g.loc τ).blk)]
 | .nilm,cs=>cs=[.map none]
 | .fn f a b,cs=>∃ fs ks,RL g w ok a fs/\RL g w ok b ks/\cs=[.func (.func f) fs.toArray ks.toArray]
 | .nilf,cs=>cs=[.nilFunc]
 | .yl τ,cs=>g.dom τ/\cs=[.func (.yield (g.loc τ).blk) #[] #[]]
 | .ifc t v,cs=>∃ cv,cs=[.iface t cv]/\(v.isAgg=true->∃ ds,cv=.agg (List.toArray ds)/\RC g w ok v ds)/\(v.isAgg=false->RC g w ok v [cv])
 | .nili,cs=>cs=[.nilIface]
 | .tu vs,cs=>∃ l,RL g w ok vs l/\cs=[.tuple l.toArray]
 | .nil,_=>False
 | .cons _ _,_=>False
 | .dead,cs=>∃ v,cs=[v]
def RL (g:G) (w:World) (ok:Nat->Prop):AV->List Value->Prop
 | .nil,l=>l=[]
 | .cons a b,l=>∃ v l',l=v :: l'/\((a.isAgg=true->∃ ds,v=.agg (List.toArray ds)/\RC g w ok a ds)/\(a.isAgg=false->RC g w ok a [v]))/\RL g w ok b l'
 | .d _ _,_=>False
 | .pr _ _,_=>False
 | .one _,_=>False
 | .nl,_=>False
 | .sl _,_=>False
 | .vw _ _ _ _,_=>False
 | .ptr _ _,_=>False
 | .va _ _ _ _,_=>False
 | .nilp,_=>False
 | .pv _ _,_=>False
 | .mp _,_=>False
 | .nilm,_=>False
 | .fn _ _ _,_=>False
 | .nilf,_=>False
 | .ifc _ _,_=>False
 | .yl _,_=>False
 | .nili,_=>False
 | .tu _,_=>False
 | .dead,_=>False
end
def RV (g:G) (w:World) (ok:Nat->Prop) (v:AV) (cv:Value):Prop :=
 (v.isAgg=true->∃ ds,cv=.agg (List.toArray ds)/\RC g w ok v ds)/\(v.isAgg=false->RC g w ok v [cv])
def GExt (g g':G):Prop:=(g.n <= g'.n/\g'.rt=g.rt)/\(∀ τ,g.dom τ->g'.dom τ/\g'.loc τ=g.loc τ)
theorem GExt.refl (g:G):GExt g g:=⟨⟨Nat.le_refl _,rfl⟩,fun _ h=>⟨h,rfl⟩⟩
theorem GExt.trans {a b c:G} (h:GExt a b) (k:GExt b c):GExt a c:=⟨⟨Nat.le_trans h.1.1 k.1.1,k.1.2.trans h.1.2⟩,fun τ ht=>⟨(k.2 τ (h.2 τ ht).1).1,(k.2 τ (h.2 τ ht).1).2.trans (h.2 τ ht).2⟩⟩
mutual
theorem Yj {g g':G} {w w':World} {ok ok':Nat->Prop} (hg:GExt g g') (h:Holds w ok w' ok'):∀ (v:AV) (cs:List Value),RC g w ok v cs->RC g' w' ok' v cs
 | .d t x,cs,h1=>Y17 h t x cs h1
 | .pr a b,cs,⟨c1,c2,e,h1,h2⟩=>⟨c1,c2,e,Yj hg h a c1 h1,Yj hg h b c2 h2⟩
 | .one a,cs,h1=>Yj hg h a cs h1
 | .nl,cs,h1=>h1
 | .sl τ,cs,⟨h1,h2⟩=>⟨(hg.2 τ h1).1,by rw[(hg.2 τ h1).2]; exact h2⟩
 | .vw τ lo n sz,cs,⟨h1,v,h2,h3⟩=>⟨(hg.2 τ h1).1,v,h2,by rw[(hg.2 τ h1).2]; exact h3⟩
 | .ptr τ p,cs,⟨h1,h2,h3⟩=>⟨(hg.2 τ h1).1,by rw[(hg.2 τ h1).2]; exact h2,by rw[(hg.2 τ h1).2]; exact h3⟩
 | .va τ p n sz,cs,⟨h1,h2,h3⟩=>⟨(hg.2 τ h1).1,by rw[(hg.2 τ h1).2]; exact h2,by rw[(hg.2 τ h1).2]; exact h3⟩
 | .nilp,cs,h1=>h1
 | .pv t x,cs,⟨ad,cells,e,h1,h2⟩=>⟨ad,cells,e,Y17 h t x cells h1,Y1b h h2⟩
 | .mp τ,cs,⟨h1,h2⟩=>⟨(hg.2 τ h1).1,by rw[(hg.2 τ h1).2]; exact h2⟩
 | .nilm,cs,h1=>h1
 | .fn f a b,cs,⟨fs,ks,h1,h2,e⟩=>⟨fs,ks,Yl hg h a fs h1,Yl hg h b ks h2,e⟩
 | .nilf,cs,h1=>h1
 | .ifc t v,cs,⟨cv,e,h1,h2⟩=>⟨cv,e,fun ha=>let ⟨ds,e,h3⟩:=h1 ha; ⟨ds,e,Yj hg h v ds h3⟩,fun ha=>Yj hg h v [cv] (h2 ha)⟩
 | .nili,cs,h1=>h1
 | .yl τ,cs,⟨h1,h2⟩=>⟨(hg.2 τ h1).1,by rw[(hg.2 τ h1).2]; exact h2⟩
 | .tu vs,cs,⟨l,h1,e⟩=>⟨l,Yl hg h vs l h1,e⟩
 | .nil,_,h1=>h1
 | .cons _ _,_,h1=>h1
 | .dead,cs,h1=>h1
theorem Yl {g g':G} {w w':World} {ok ok':Nat->Prop} (hg:GExt g g') (h:Holds w ok w' ok'):∀ (v:AV) (l:List Value),RL g w ok v l->RL g' w' ok' v l
 | .nil,l,h1=>h1
 | .cons a b,l,⟨v,l',e,⟨h1,h2⟩,h3⟩=>⟨v,l',e,⟨fun ha=>let ⟨ds,e,h4⟩:=h1 ha; ⟨ds,e,Yj hg h a ds h4⟩,fun ha=>Yj hg h a [v] (h2 ha)⟩,Yl hg h b l' h3⟩
 | .d _ _,_,h1=>h1.elim
 | .pr _ _,_,h1=>h1.elim
 | .one _,_,h1=>h1.elim
 | .nl,_,h1=>h1.elim
 | .sl _,_,h1=>h1.elim
 | .vw _ _ _ _,_,h1=>h1.elim
 | .ptr _ _,_,h1=>h1.elim
 | .va _ _ _ _,_,h1=>h1.elim
 | .nilp,_,h1=>h1.elim
 | .pv _ _,_,h1=>h1.elim
 | .mp _,_,h1=>h1.elim
 | .nilm,_,h1=>h1.elim
 | .fn _ _ _,_,h1=>h1.elim
 | .nilf,_,h1=>h1.elim
 | .ifc _ _,_,h1=>h1.elim
 | .nili,_,h1=>h1.elim
 | .yl _,_,h1=>h1.elim
 | .tu _,_,h1=>h1.elim
 | .dead,_,h1=>h1.elim
end
theorem Yt {g g':G} {w w':World} {ok ok':Nat->Prop} (hg:GExt g g') (h:Holds w ok w' ok') {v:AV} {cv:Value} (h1:RV g w ok v cv):RV g' w' ok' v cv :=
 ⟨fun ha=>let ⟨ds,e,h2⟩:=h1.1 ha; ⟨ds,e,Yj hg h v ds h2⟩,fun ha=>Yj hg h v _ (h1.2 ha)⟩
theorem RC_len {g:G} {w:World} {ok:Nat->Prop}:∀ (v:AV) (cs:List Value),RC g w ok v cs->cs.length=v.size
 | .d t x,cs,h=>Rd_len w ok t x cs h
 | .pr a b,cs,⟨c1,c2,e,h1,h2⟩=>by subst e; rw[ln9,RC_len a c1 h1,RC_len b c2 h2]; rfl
 | .one a,cs,h=>RC_len a cs h
 | .nl,cs,h=>by cases h; rfl
 | .sl τ,cs,⟨_,h⟩=>by subst h; rfl
 | .vw τ lo n sz,cs,⟨_,v,h,_⟩=>by subst h; rfl
 | .ptr τ p,cs,⟨_,_,h⟩=>by cases h; rfl
 | .va τ p n sz,cs,⟨_,_,h⟩=>by cases h; rfl
 | .nilp,cs,h=>by cases h; rfl
 | .pv t x,cs,⟨ad,cells,h,_⟩=>by cases h; rfl
 | .mp τ,cs,⟨_,h⟩=>by cases h; rfl
 | .nilm,cs,h=>by cases h; rfl
 | .fn f a b,cs,⟨fs,ks,_,_,h⟩=>by cases h; rfl
 | .nilf,cs,h=>by cases h; rfl
 | .ifc t v,cs,⟨cv,h,_⟩=>by cases h; rfl
 | .nili,cs,h=>by cases h; rfl
 | .yl τ,cs,⟨_,h⟩=>by cases h; rfl
 | .tu vs,cs,⟨l,_,h⟩=>by cases h; rfl
 | .nil,_,h=>h.elim
 | .cons _ _,_,h=>h.elim
 | .dead,cs,⟨v,h⟩=>by cases h; rfl
theorem RC_one {g:G} {w:World} {ok:Nat->Prop}:∀ (v:AV) (cs:List Value),v.sto=true->RC g w ok v cs->∀ u ∈ cs,u.oneCell'=true
 | .d t x,cs,_,h=>Rd_one w ok t x cs h
 | .pr a b,cs,hs,⟨c1,c2,e,h1,h2⟩=>by
  subst e;simp only[AV.sto,ba9] at hs;intro v hv;rcases List.mem_append.1 hv with hv | hv
  ·exact RC_one a c1 hs.1 h1 v hv
  ·exact RC_one b c2 hs.2 h2 v hv
 | .one a,cs,hs,h=>RC_one a cs hs h
 | .nl,cs,_,h=>by cases h; simp[Value.oneCell']
 | .sl τ,cs,_,⟨_,h⟩=>by subst h; simp[Value.oneCell',Loc.sv]
 | .vw τ lo n sz,cs,_,⟨_,v,h,_,ad,e,_⟩=>by subst h; subst e; simp[Value.oneCell']
 | .ptr τ p,cs,_,⟨_,_,h⟩=>by cases h; simp[Value.oneCell']
 | .va τ p n sz,cs,_,⟨_,_,h⟩=>by cases h; simp[Value.oneCell']
 | .nilp,cs,_,h=>by cases h; simp[Value.oneCell']
 | .pv t x,cs,_,⟨ad,cells,h,_⟩=>by cases h; simp[Value.oneCell']
 | .mp τ,cs,_,⟨_,h⟩=>by cases h; simp[Value.oneCell']
 | .nilm,cs,_,h=>by cases h; simp[Value.oneCell']
 | .fn f a b,cs,_,⟨fs,ks,_,_,h⟩=>by cases h; simp[Value.oneCell']
 | .nilf,cs,_,h=>by cases h; simp[Value.oneCell']
 | .ifc t v,cs,_,⟨cv,h,_⟩=>by cases h; simp[Value.oneCell']
 | .nili,cs,_,h=>by cases h; simp[Value.oneCell']
 | .yl τ,cs,_,⟨_,h⟩=>by cases h; simp[Value.oneCell']
 | .tu vs,cs,hs,_=>by cases hs
 | .nil,_,hs,_=>by cases hs
 | .cons _ _,_,hs,_=>by cases hs
 | .dead,cs,hs,_=>by cases hs
theorem Yo {g:G} {w:World} {ok:Nat->Prop} {v:AV} {cv:Value} (hs:v.sto=true) (h:RV g w ok v cv):RC g w ok v cv.cells.toList:=by
 cases ha:v.isAgg with
 | true=>obtain ⟨ds,e,h1⟩:=h.1 ha; subst e; exact h1
 | false =>
  have h1:=h.2 ha;have h2:=RC_one v _ hs h1 cv (by simp);cases cv <;> first | exact h1 | simp[Value.oneCell'] at h2
theorem Y4v {a b:Ty} {x:a.T} {y:b.T} (h:Ty.conv a b x=some y):∃ e:a=b,y=Ty.castTo e x:=by
 unfold Ty.conv at h;split at h
 ·rename_i e _; exact ⟨e,by simpa using h.symm⟩
 ·cases h
theorem Y4t {w:World} {ok:Nat->Prop} {a b:Ty} {x:a.T} {y:b.T} (h:Ty.conv a b x=some y) {cs:List Value} (hx:Rd w ok a x cs):Rd w ok b y cs:=by
 obtain ⟨e,rfl⟩:=Y4v h;cases e;exact hx
section
variable {g:G} {w:World} {ok:Nat->Prop}
theorem mk2_ok {a b:AV} {c1 c2:List Value} (h1:RC g w ok a c1) (h2:RC g w ok b c2):RC g w ok (AV.mk2 a b) (c1++c2):=by
 unfold AV.mk2;split
 ·exact ⟨c1,c2,rfl,h1,h2⟩
 ·exact ⟨c1,c2,rfl,h1,h2⟩
theorem mk1_ok {a:AV} {c:List Value} (h:RC g w ok a c):RC g w ok (AV.mk1 a) c:=by
 unfold AV.mk1;split <;> exact h
theorem Yj5 {v a b:AV} (h:v.split=some (a,b)) {cs:List Value} (hv:RC g w ok v cs):∃ c1 c2,cs=c1++c2/\RC g w ok a c1/\RC g w ok b c2:=by
 unfold AV.split at h;split at h
 ·cases h; exact hv
 ·cases h; exact hv
 ·cases h
theorem Y4f:∀ (k:Nat) (l:Bool) (v:AV) (o:Nat) (o':Nat) (x:AV),v.comp k l o=some (o',x)->∀ cs,RC g w ok v cs ->
  ∃ c0 c1 c2,cs=c0++c1++c2/\o'=o+c0.length/\RC g w ok x c1
 | 0,true,v,o,o',x,h,cs,hv=>by
  simp only[AV.comp] at h; cases h;exact ⟨[],cs,[],by simp,by simp,hv⟩
 | 0,false,v,o,o',x,h,cs,hv=>by
  simp only[AV.comp] at h;split at h
  ·rename_i a b hs;cases h;obtain ⟨c1,c2,e,h1,h2⟩:=Yj5 hs hv;exact ⟨[],c1,c2,by simp[e],by simp,h1⟩
  ·cases h
 | k+1,l,v,o,o',x,h,cs,hv=>by
  simp only[AV.comp] at h;split at h
  ·rename_i a b hs;obtain ⟨c1,c2,e,h1,h2⟩:=Yj5 hs hv;obtain ⟨d0,d1,d2,e',ho,hx⟩:=Y4f k l b _ _ _ h c2 h2;exact ⟨c1++d0,d1,d2,by simp[e,e'],by rw[ho,<- RC_len a c1 h1]; simp; omega,hx⟩
  ·cases h
theorem put_ok:∀ (k:Nat) (l:Bool) (v:AV) (o o':Nat) (x y v':AV),v.comp k l o=some (o',x)->v.put y k l=some v'->∀ c0 c1 c2 ds,RC g w ok v (c0++c1++c2)->o'=o+c0.length->RC g w ok x c1 ->
  RC g w ok y ds->RC g w ok v' (c0++ds++c2)
 | 0,true,v,o,o',x,y,v',h,hp,c0,c1,c2,ds,hv,ho,hx,hy=>by
  simp only[AV.comp] at h; cases h;simp only[AV.put] at hp; cases hp;have h0:c0=[]:=by cases c0 with | nil=>rfl | cons a l=>simp at ho
  have h2:c2=[]:=by
   have:=RC_len _ _ hv; have:=RC_len _ _ hx;simp at *; cases c2 with | nil=>rfl | cons a l=>simp at *; omega
  subst h0 h2; simpa using hy
 | 0,false,v,o,o',x,y,v',h,hp,c0,c1,c2,ds,hv,ho,hx,hy=>by
  simp only[AV.comp] at h;simp only[AV.put] at hp;split at h
  ·rename_i a b hs;cases h;rw[hs] at hp; cases hp;have h0:c0=[]:=by cases c0 with | nil=>rfl | cons a l=>simp at ho
   subst h0;obtain ⟨d1,d2,e,h1,h2⟩:=Yj5 hs hv;have hl:d1.length=c1.length:=by rw[RC_len _ _ h1,RC_len _ _ hx]
   obtain ⟨rfl,rfl⟩:=List.append_inj (by simpa using e.symm) hl;exact mk2_ok hy h2
  ·cases h
 | k+1,l,v,o,o',x,y,v',h,hp,c0,c1,c2,ds,hv,ho,hx,hy=>by
  simp only[AV.comp] at h;simp only[AV.put] at hp;split at h
  ·rename_i a b hs;simp only[hs] at hp;split at hp
   ·rename_i b' hb';cases hp;obtain ⟨d1,d2,e,h1,h2⟩:=Yj5 hs hv
    have hle:a.size <= c0.length:=by
     obtain ⟨q0,q1,q2,_,hq,_⟩:=Y4f (g:=g) (w:=w) (ok:=ok) k l b _ _ _ h d2 h2;omega
    have hd:d1.length=a.size:=RC_len _ _ h1
    obtain ⟨e1,e2⟩:d1=c0.take a.size/\d2=c0.drop a.size++c1++c2:=by
     have e3:c0.take a.size++(c0.drop a.size++c1++c2)=d1++d2:=by rw[<- e]; simp[<- List.append_assoc]
     obtain ⟨e4,e5⟩:=List.append_inj e3 (by rw[List.length_take,hd]; omega);exact ⟨e4.symm,e5.symm⟩
    subst e2;have:=put_ok k l b _ _ x y b' h hb' (c0.drop a.size) c1 c2 ds h2 (by rw[ho,List.length_drop]; omega) hx hy;have h3:=mk2_ok h1 this;rw[e1,<- List.append_assoc,<- List.append_assoc,List.take_append_drop] at h3;exact h3
   ·cases hp
  ·cases h
theorem sel_ok {v x:AV} {s:Sel} (h:v.sel s=some x) {n:Nat} (hs:s.ok n) {cs:List Value} (hv:RC g w ok v cs) :
  ∃ c0 c1 c2,cs=c0++c1++c2/\c0.length=s.off/\RC g w ok x c1:=by
 cases s with
 | fld k l off =>
  simp only[AV.sel] at h;split at h
  ·rename_i o a hc;obtain ⟨c0,c1,c2,e,ho,hx⟩:=Y4f k l v 0 o a hc cs hv;cases hb:Nat.beq o off with
   | false=>rw[hb] at h; cases h
   | true =>
    rw[hb] at h; cases h;have:=eb9 hb;exact ⟨c0,c1,c2,e,by show _=off; omega,hx⟩
  ·cases h
 | inn =>
  simp only[AV.sel] at h;split at h
  ·cases h; exact ⟨[],cs,[],by simp,rfl,hv⟩
  ·cases h; exact ⟨[],cs,[],by simp,rfl,hv⟩
  ·cases h
 | idx i sz n' =>
  simp only[AV.sel] at h;split at h
  ·rename_i m t xs;cases hb:Nat.beq n' m && Nat.beq sz t.size with
   | false=>rw[hb] at h; cases h
   | true =>
    rw[hb] at h; cases h;rw[ba9] at hb;have e1:=eb9 hb.1;have e2:=eb9 hb.2;subst e1 e2;obtain ⟨hl,hr⟩:=hv;have hi:i < List.length (α:=t.T) xs:=by rw[hl]; exact hs
    have h1:=RdL_at (fun x cs h=>Rd_len w ok t x cs h) xs cs hr i t.zero hi;have hlen:=Yx (fun x cs h=>Rd_len w ok t x cs h) xs cs hr;have hle:(i+1) * t.size <= List.length (α:=t.T) xs * t.size:=Nat.mul_le_mul_right _ hi;rw[Nat.add_mul,Nat.one_mul] at hle;refine ⟨cs.take (i * t.size),(cs.drop (i * t.size)).take t.size,(cs.drop (i * t.size)).drop t.size,?_,?_,h1⟩
    ·rw[la9,List.take_append_drop,List.take_append_drop]
    ·show _=i * t.size;rw[List.length_take]; omega
  ·cases h
 | row i sz=>cases h
theorem get_ok {n:Nat}:∀ (p:Path) (v x:AV),v.get p=some x->pathOK n p->∀ cs,RC g w ok v cs->∃ c0 c1 c2,cs=c0++c1++c2/\c0.length=Path.off p/\RC g w ok x c1
 | [],v,x,h,_,cs,hv=>by cases h; exact ⟨[],cs,[],by simp,rfl,hv⟩
 | s :: p,v,x,h,hp,cs,hv=>by
  simp only[AV.get] at h;split at h
  ·rename_i a ha;obtain ⟨c0,c1,c2,e,ho,hx⟩:=sel_ok ha (hp s (by simp)) hv;obtain ⟨d0,d1,d2,e',ho',hx'⟩:=get_ok p a x h (fun s hs=>hp s (by simp[hs])) c1 hx;exact ⟨c0++d0,d1,d2++c2,by simp[e,e'],by simp[Path.off,ho,ho'],hx'⟩
  ·cases h
end
def Blk.live:Blk->Bool
 | .var _ | .row _ _ | .mp _ _ _ | .lp _ _ _ _ | .fm _ _ | .mo _ _ _ _=>true
 | _=>false
def Blk.has:Blk->Nat->Bool
 | .mo _ _ l none,i=>decide (i < l.length)
 | .mo _ _ l (some (_,j)),i=>decide (i < l.length) && !Nat.beq i j
 | _,_=>false
def Lv (g:G) (m:Mem) (τ:Nat):Prop:=(mget τ m).live=true/\(g.loc τ).nil=false
def Sb (g:G) (m:Mem) (τ i:Nat):Prop:=(mget τ m).has i=true/\(g.sub τ i).nil=false
def OwnL (g:G) (m:Mem) (b:Nat):Prop:=∃ τ,Lv g m τ/\(g.loc τ).blk=b
def OwnS (g:G) (m:Mem) (b:Nat):Prop:=∃ τ i,Sb g m τ i/\(g.sub τ i).blk=b
def Own (g:G) (m:Mem) (b:Nat):Prop:=OwnL g m b \/ OwnS g m b
def okB (X:Nat->Prop) (g:G) (m:Mem) (b:Nat):Prop:=¬ X b/\¬ Own g m b
def EOK (w:World) (ok:Nat->Prop) (kt vt:Ty) (i:Nat) (e:MapEntry) (p:kt.T × vt.T):Prop :=
 e.born=i/\(∃ g,RV g w ok (.d kt p.1) e.key/\RV g w ok (.d vt p.2) e.val)
def TagOK (tag:Int) (st:LoopState) (pe:Option Code):Prop :=
 (tag=0/\st=.ready/\pe=none) \/ (tag=1/\st=.done/\pe=some .ret) \/ ∃ i:Nat,tag=2+(i:Int)/\st=.done/\pe=some (.exit i)
def RowOK (w:World) (ok:Nat->Prop) (t:Ty) (xs:List t.T) (L:Loc):Prop:=xs.length=L.len/\L.len <= L.cap/\((L.nil=true/\L.cap=0) \/
 (L.nil=false/\∃ c e cells,w.heap[L.blk]?=some (.cells c e (0,0))/\RdL (Rd w ok t) xs cells/\(∀ j v,cells[j]?=some v->c[L.base+j]?=some v)/\L.base+L.cap * t.size <= c.size))
def MOK (g:G) (w:World) (ok:Nat->Prop) (τ:Nat) (kt t:Ty) (h:Bool) (i:Nat) (e:MapEntry) (p:kt.T × List t.T):Prop :=
 e.born=i/\(∃ g0,RV g0 w ok (.d kt p.1) e.key)/\(h=true->e.val=(g.sub τ i).sv/\RowOK w ok t p.2 (g.sub τ i))
def BOK (g:G) (w:World) (ok:Nat->Prop) (τ:Nat):Blk->Prop
 | .var v=>(g.loc τ).base=0/\v.sto=true/\(g.loc τ).nil=false/\∃ c e,w.heap[(g.loc τ).blk]?=some (.cells c e (0,0))/\RC g w ok v c.toList
 | .row t xs=>xs.length=(g.loc τ).len/\(g.loc τ).len <= (g.loc τ).cap/\(((g.loc τ).nil=true/\(g.loc τ).cap=0) \/
   ((g.loc τ).nil=false/\∃ c e cells,w.heap[(g.loc τ).blk]?=some (.cells c e (0,0))/\RdL (Rd w ok t) xs cells /\
   (∀ j v,cells[j]?=some v->c[(g.loc τ).base+j]?=some v)/\(g.loc τ).base+(g.loc τ).cap * t.size <= c.size))
 | .frz t xs=>Rd w ok (.slice t) xs [(g.loc τ).sv]
 | .mp kt vt l=>(g.loc τ).nil=false/\∃ es,w.heap[(g.loc τ).blk]?=some (.map es es.size)/\es.size=l.length/\∀ i e p,es[i]?=some e->l[i]?=some p->EOK w ok kt vt i e p
 | .lp id sl sv tag=>(g.loc τ).nil=false/\∃ rt fn tmps D st pe vs,g.rt id=some rt/\w.heap[(g.loc τ).blk]?=some (.loop { state:=st,pending:=pe,fn,tmps,params:=rt.ps,assign:=rt.as,body:=rt.body,defers:=D }) /\
   tmps.size=rt.nt/\RL g w ok sv vs/\vs=sl.map (fun t=>tmps.getD t undef)/\TagOK tag st pe
 | .fm ks vs=>(g.loc τ).nil=false/\∃ (es:Array MapEntry) (cvs:List Value),w.heap[(g.loc τ).blk]?=some (.map es es.size)/\es.size=ks.length/\(∀ (i:Nat) (e:MapEntry) (n:Int),es[i]?=some e->ks[i]?=some n->e.born=i/\e.key=.int .i64 n)/\RL g w ok vs cvs/\cvs=es.toList.map (·.val)
 | .mo kt t l h=>(g.loc τ).nil=false/\∃ es:Array MapEntry,w.heap[(g.loc τ).blk]?=some (.map es es.size)/\es.size=l.length/\(∀ i e p,es[i]?=some e->l[i]?=some p->MOK g w ok τ kt t ((Blk.mo kt t l h).has i) i e p) /\
   ∀ σ j,h=some (σ,j)->j < l.length/\g.dom σ/\∀ e,es[j]?=some e->e.val=(g.loc σ).sv
 | .gone=>True
structure Inv (g:G) (X:Nat->Prop) (m:Mem) (w:World):Prop where
 ok:∀ τ,BOK g w (okB X g m) τ (mget τ m)
 inj:∀ τ τ',Lv g m τ->Lv g m τ'->(g.loc τ).blk=(g.loc τ').blk->τ=τ'
 far:∀ τ,Lv g m τ->¬ X (g.loc τ).blk
 xlt:∀ b,X b->b < w.heap.size
 fresh:∀ τ,¬ g.dom τ->mget τ m=.gone
 dlt:∀ τ,g.dom τ->τ < g.n
 sb:∀ τ i,Sb g m τ i->(g.sub τ i).blk < w.heap.size/\¬ X (g.sub τ i).blk/\(∀ σ,Lv g m σ->(g.loc σ).blk ≠ (g.sub τ i).blk)/\∀ σ j,Sb g m σ j->(g.sub σ j).blk=(g.sub τ i).blk->σ=τ/\j=i
structure Ext (g:G) (m:Mem) (w:World) (g':G) (m':Mem) (w':World):Prop where
 gx:GExt g g'
 nw:∀ τ,g'.dom τ->g.dom τ \/ g.n <= τ
 size:w.heap.size <= w'.heap.size
 keep:∀ b,b < w.heap.size->¬ Own g m b->w'.heap[b]?=w.heap[b]?
 own:∀ b,Own g' m' b->Own g m b \/ w.heap.size <= b
 os:w'.os=w.os
 tape:w'.tape=w.tape
 output:w'.output=w.output
structure Ext0 (p:Nat) (g:G) (m:Mem) (w:World) (g':G) (m':Mem) (w':World):Prop where
 rt:g'.rt=g.rt
 pin:∀ τ,τ < p->g.dom τ->g'.dom τ/\g'.loc τ=g.loc τ
 size:w.heap.size <= w'.heap.size
 keep:∀ b,b < w.heap.size->¬ Own g m b->w'.heap[b]?=w.heap[b]?
 own:∀ b,Own g' m' b->Own g m b \/ w.heap.size <= b
 os:w'.os=w.os
 tape:w'.tape=w.tape
 output:w'.output=w.output
theorem Ext.to0 {p:Nat} {g g':G} {m m':Mem} {w w':World} (h:Ext g m w g' m' w'):Ext0 p g m w g' m' w':=⟨h.gx.1.2,fun τ _ ht=>h.gx.2 τ ht,h.size,h.keep,h.own,h.os,h.tape,h.output⟩
theorem Ext0.refl (p:Nat) (g:G) (m:Mem) (w:World):Ext0 p g m w g m w:=⟨rfl,fun _ _ h=>⟨h,rfl⟩,Nat.le_refl _,fun _ _ _=>rfl,fun _ h=>.inl h,rfl,rfl,rfl⟩
theorem Ext0.trans {p:Nat} {g1 g2 g3:G} {m1 m2 m3:Mem} {w1 w2 w3:World} (h:Ext0 p g1 m1 w1 g2 m2 w2) (k:Ext0 p g2 m2 w2 g3 m3 w3):Ext0 p g1 m1 w1 g3 m3 w3:=by
 refine ⟨k.rt.trans h.rt,fun τ hp ht=>⟨(k.pin τ hp (h.pin τ hp ht).1).1,(k.pin τ hp (h.pin τ hp ht).1).2.trans (h.pin τ hp ht).2⟩,Nat.le_trans h.size k.size,fun b hb ho=>?_,fun b hb=>?_,k.os.trans h.os,k.tape.trans h.tape,k.output.trans h.output⟩
 ·rw[k.keep b (Nat.lt_of_lt_of_le hb h.size) (fun h2=>(h.own b h2).elim ho (by omega)),h.keep b hb ho]
 ·rcases k.own b hb with h2 | h2
  ·exact h.own b h2
  ·have:=h.size; exact .inr (by omega)
theorem Ext.refl (g:G) (m:Mem) (w:World):Ext g m w g m w:=⟨GExt.refl g,fun _ h=>.inl h,Nat.le_refl _,fun _ _ _=>rfl,fun _ h=>.inl h,rfl,rfl,rfl⟩
theorem Ext.trans {g1 g2 g3:G} {m1 m2 m3:Mem} {w1 w2 w3:World} (h:Ext g1 m1 w1 g2 m2 w2) (k:Ext g2 m2 w2 g3 m3 w3):Ext g1 m1 w1 g3 m3 w3:=by
 refine ⟨h.gx.trans k.gx,fun τ ht=>(k.nw τ ht).elim (h.nw τ) (fun e=>.inr (Nat.le_trans h.gx.1.1 e)),Nat.le_trans h.size k.size,fun b hb ho=>?_,fun b hb=>?_,k.os.trans h.os,k.tape.trans h.tape,k.output.trans h.output⟩
 ·rw[k.keep b (Nat.lt_of_lt_of_le hb h.size) (fun h2=>(h.own b h2).elim ho (by omega)),h.keep b hb ho]
 ·rcases k.own b hb with h2 | h2
  ·exact h.own b h2
  ·have:=h.size; exact .inr (by omega)
theorem Yb1 {w:World} {b:Nat} {o:Obj} (h:w.heap[b]?=some o):b < w.heap.size:=by
 rcases Nat.lt_or_ge b w.heap.size with h1 | h1
 ·exact h1
 ·rw[Array.getElem?_eq_none h1] at h; cases h
theorem Ext.holds {g g':G} {X:Nat->Prop} {m m':Mem} {w w':World} (h:Ext g m w g' m' w'):Holds w (okB X g m) w' (okB X g' m'):=by
 rintro b ⟨h1,h2⟩ ⟨_,_,_,h3⟩;have hlt:=Yb1 h3;exact ⟨⟨h1,fun h4=>(h.own b h4).elim h2 (by omega)⟩,h.keep b hlt h2⟩
theorem Y5 {w w':World} {ok ok':Nat->Prop} (h:Holds w ok w' ok') {kt vt:Ty} {i:Nat} {e:MapEntry} {p:kt.T × vt.T} (he:EOK w ok kt vt i e p):EOK w' ok' kt vt i e p:=by
 obtain ⟨h1,g,h2,h3⟩:=he;exact ⟨h1,g,Yt (GExt.refl g) h h2,Yt (GExt.refl g) h h3⟩
theorem Y19 {w w':World} {ok ok':Nat->Prop} (h:Holds w ok w' ok') {t:Ty} {xs:List t.T} {L:Loc} (hb:L.nil=false->w'.heap[L.blk]?=w.heap[L.blk]?) (hB:RowOK w ok t xs L):RowOK w' ok' t xs L:=by
 obtain ⟨h1,h2,h0⟩:=hB;refine ⟨h1,h2,?_⟩;rcases h0 with h0 | ⟨h7,c,e,cells,h3,h4,h5,h6⟩
 ·exact .inl h0
 ·exact .inr ⟨h7,c,e,cells,by rw[hb h7]; exact h3,Yz (fun x cs=>Y17 h t x cs) _ _ h4,h5,h6⟩
theorem Y1 {g g':G} {w w':World} {ok ok':Nat->Prop} (hg:GExt g g') (h:Holds w ok w' ok') {τ:Nat} (hτ:g.dom τ) {B:Blk} (hb:B.live=true->(g.loc τ).nil=false->w'.heap[(g.loc τ).blk]?=w.heap[(g.loc τ).blk]?)
  (hs:∀ i,B.has i=true->g'.sub τ i=g.sub τ i/\((g.sub τ i).nil=false->w'.heap[(g.sub τ i).blk]?=w.heap[(g.sub τ i).blk]?))
  (hB:BOK g w ok τ B):BOK g' w' ok' τ B:=by
 have hl:=(hg.2 τ hτ).2;cases B with
 | var v =>
  obtain ⟨h1,h2,h5,c,e,h3,h4⟩:=hB;refine ⟨by rw[hl]; exact h1,h2,by rw[hl]; exact h5,c,e,by rw[hl,hb rfl h5]; exact h3,Yj hg h v _ h4⟩
 | row t xs =>
  obtain ⟨h1,h2,h0⟩:=hB;refine ⟨by rw[hl]; exact h1,by rw[hl]; exact h2,?_⟩;rcases h0 with h0 | ⟨h7,c,e,cells,h3,h4,h5,h6⟩
  ·left; rw[hl]; exact h0
  ·exact .inr ⟨by rw[hl]; exact h7,c,e,cells,by rw[hl,hb rfl h7]; exact h3,Yz (fun x cs=>Y17 h t x cs) _ _ h4,by rw[hl]; exact h5,by rw[hl]; exact h6⟩
 | frz t xs=>show Rd _ _ _ _ _; rw[hl]; exact Y17 h _ _ _ hB
 | mp kt vt l =>
  obtain ⟨h4,es,h1,h2,h3⟩:=hB;exact ⟨by rw[hl]; exact h4,es,by rw[hl,hb rfl h4]; exact h1,h2,fun i e p he hp=>Y5 h (h3 i e p he hp)⟩
 | lp id sl sv tag =>
  obtain ⟨h4,rt,fn,tmps,D,st,pe,vs,h1,h2,h3,h5,h6,h7⟩:=hB;exact ⟨by rw[hl]; exact h4,rt,fn,tmps,D,st,pe,vs,by rw[hg.1.2]; exact h1,by rw[hl,hb rfl h4]; exact h2,h3,Yl hg h sv vs h5,h6,h7⟩
 | fm ks vs =>
  obtain ⟨h4,es,cvs,h1,h2,h3,h5,h6⟩:=hB;exact ⟨by rw[hl]; exact h4,es,cvs,by rw[hl,hb rfl h4]; exact h1,h2,h3,Yl hg h vs cvs h5,h6⟩
 | mo kt t l hh =>
  obtain ⟨h4,es,h1,h2,h3,h5⟩:=hB;refine ⟨by rw[hl]; exact h4,es,by rw[hl,hb rfl h4]; exact h1,h2,fun i e p he hp=>?_,fun σ j e=>?_⟩
  ·obtain ⟨k1,⟨g0,k2⟩,k3⟩:=h3 i e p he hp;refine ⟨k1,⟨g0,Yt (GExt.refl g0) h k2⟩,fun q=>?_⟩;obtain ⟨q1,q2⟩:=hs i q;obtain ⟨k4,k5⟩:=k3 q;rw[q1];exact ⟨k4,Y19 h q2 k5⟩
  ·obtain ⟨k1,k2,k3⟩:=h5 σ j e;exact ⟨k1,(hg.2 σ k2).1,fun e he=>by rw[(hg.2 σ k2).2]; exact k3 e he⟩
 | gone=>trivial
section
variable {g:G} {w:World} {ok:Nat->Prop} {m:Mem}
theorem Y57 {u v:AV} {a b:Ty} {x:a.T × b.T} (h:AV.data m (.pr u v) (.pair a b)=some x):∃ y z,AV.data m u a=some y/\AV.data m v b=some z/\x=(y,z):=by
 have h':(match AV.data m u a,AV.data m v b with | some x,some y=>some (x,y) | _,_=>none)=some x:=h;split at h'
 ·rename_i y z h1 h2;exact ⟨y,z,h1,h2,(oi9 h').symm⟩
 ·cases h'
theorem Y59 {τ:Nat} {t:Ty} {x:List t.T} (h:AV.data m (.sl τ) (.slice t)=some x):∃ t' xs,mget τ m=.frz t' xs/\Ty.conv (.slice t') (.slice t) xs=some x:=by
 have h':(match mget τ m with | .frz t' xs=>Ty.conv (.slice t') (.slice t) xs | _=>none)=some x:=h;cases hm:mget τ m with
 | frz t' xs=>rw[hm] at h'; exact ⟨t',xs,rfl,h'⟩
 | _=>rw[hm] at h'; cases h'
theorem Y5a {τ lo n sz:Nat} {t:Ty} {x:List t.T} (h:AV.data m (.vw τ lo n sz) (.slice t)=some x):∃ t' xs,mget τ m=.frz t' xs/\sz=t'.size/\Ty.conv (.slice t') (.slice t) (cut xs lo n)=some x:=by
 have h':(match mget τ m with | .frz t' xs=>(bif Nat.beq sz t'.size then Ty.conv (.slice t') (.slice t) (cut xs lo n) else none) | _=>none)=some x:=h;cases hm:mget τ m with
 | frz t' xs =>
  rw[hm] at h';simp only at h';cases hb:Nat.beq sz t'.size with
  | false=>rw[hb] at h'; cases h'
  | true=>rw[hb] at h'; exact ⟨t',xs,rfl,eb9 hb,h'⟩
 | _=>rw[hm] at h'; cases h'
theorem Y52 {α:Type} {l:List α} {lo n:Nat} (h:lo+n <= l.length):(cut l lo n).length=n:=by
 unfold cut; rw[List.length_take,List.length_drop]; omega
theorem Y7r {τ lo n:Nat} {t:Ty} {xs:List t.T} {v:Value} (hB:BOK g w ok τ (.frz t xs)) (hv:(g.loc τ).vok lo n t.size v):Rd w ok (.slice t) (cut xs lo n) [v]:=by
 obtain ⟨ad,cap,e1,e2,e3⟩:=hB;have e1:=(List.cons.inj e1).1;unfold Loc.sv at e1;simp only[Value.slice.injEq] at e1;obtain ⟨q1,q2,q3⟩:=e1;obtain ⟨⟨v1,_⟩,ad',rfl,v3⟩:=hv;have hl:(cut xs lo n).length=n:=Y52 (by rw[<- q2]; exact v1);refine ⟨ad',_,by rw[hl],by rw[hl]; omega,?_⟩;by_cases hn:n=0
 ·left; exact List.eq_nil_of_length_eq_zero (by rw[hl]; exact hn)
 ·right;rcases e3 with e3 | ⟨a,cells,rfl,k1,k2⟩
  ·rw[e3] at q2; simp at q2; omega
  ·rcases v3 with ⟨n1,_⟩ | ⟨n1,o,rfl,n2,_⟩
   ·rw[n1] at q1; cases q1
   ·rw[n1] at q1;have hlo:lo < (g.loc τ).cap:=by omega
    have q1:=oi9 q1;subst q1;have hlen:=Yx (fun x cs h=>Rd_len w ok t x cs h) xs cells k1;refine ⟨_,(cells.drop (lo * t.size)).take (n * t.size),rfl,(Y13 (fun x cs h=>Rd_len w ok t x cs h) _ _ (Y13 (fun x cs h=>Rd_len w ok t x cs h) xs cells k1 lo).2 n).1,?_⟩;obtain ⟨s1,s2,c,e,fr,s3,s4⟩:=k2;refine ⟨rfl,s2,c,e,fr,s3,fun j u hu=>?_⟩;rw[List.getElem?_take] at hu;split at hu
    ·rw[List.getElem?_drop] at hu;rw[n2 hlo,Nat.add_assoc];exact s4 _ _ hu
    ·cases hu
theorem Y56 (hf:∀ τ,BOK g w ok τ (mget τ m)):∀ (v:AV) (t:Ty) (x:t.T),v.data m t=some x->∀ cs,RC g w ok v cs->Rd w ok t x cs
 | .d t' y,t,x,h,cs,hv=>by
  cases t <;> exact Y4t h hv
 | .pr u v,t,x,h,cs,hv=>by
  cases t with
  | pair a b =>
   obtain ⟨y,z,h1,h2,rfl⟩:=Y57 h;obtain ⟨c1,c2,e,k1,k2⟩:=hv;exact ⟨c1,c2,e,Y56 hf u a y h1 c1 k1,Y56 hf v b z h2 c2 k2⟩
  | _=>cases h
 | .one u,t,x,h,cs,hv=>by
  cases t with
  | one a=>exact Y56 hf u a x h cs hv
  | _=>cases h
 | .nl,t,x,h,cs,hv=>by
  cases t with
  | slice t=>cases h; cases hv; exact ⟨none,0,rfl,Nat.le_refl _,.inl rfl⟩
  | _=>cases h
 | .sl τ,t,x,h,cs,hv=>by
  cases t with
  | slice t =>
   obtain ⟨t',xs,hm,h1⟩:=Y59 h;obtain ⟨hn,hc⟩:=hv;have hB:=hf τ;rw[hm] at hB;subst hc;exact Y4t h1 hB
  | _=>cases h
 | .vw τ lo n sz,t,x,h,cs,hv=>by
  cases t with
  | slice t =>
   obtain ⟨t',xs,hm,hsz,h1⟩:=Y5a h;obtain ⟨hn,v,hc,hv⟩:=hv;have hB:=hf τ;rw[hm] at hB;subst hc hsz;exact Y4t h1 (Y7r hB hv)
  | _=>cases h
 | .ptr _ _,t,x,h,cs,hv=>by cases t <;> cases h
 | .va _ _ _ _,t,x,h,cs,hv=>by cases t <;> cases h
 | .nilp,t,x,h,cs,hv=>by cases t <;> cases h
 | .pv _ _,t,x,h,cs,hv=>by cases t <;> cases h
 | .mp _,t,x,h,cs,hv=>by cases t <;> cases h
 | .nilm,t,x,h,cs,hv=>by cases t <;> cases h
 | .fn _ _ _,t,x,h,cs,hv=>by cases t <;> cases h
 | .nilf,t,x,h,cs,hv=>by cases t <;> cases h
 | .ifc _ _,t,x,h,cs,hv=>by cases t <;> cases h
 | .nili,t,x,h,cs,hv=>by cases t <;> cases h
 | .tu _,t,x,h,cs,hv=>by cases t <;> cases h
 | .nil,t,x,h,cs,hv=>by cases t <;> cases h
 | .cons _ _,t,x,h,cs,hv=>by cases t <;> cases h
 | .dead,t,x,h,cs,hv=>by cases t <;> cases h
theorem set_ok (hf:∀ τ,BOK g w ok τ (mget τ m)) {n:Nat}:∀ (p:Path) (v x v':AV),v.set m x p=some v'->pathOK n p->∀ cs ds,RC g w ok v cs->RC g w ok x ds ->
  ∃ c0 c1 c2,cs=c0++c1++c2/\c0.length=Path.off p/\c1.length=ds.length/\RC g w ok v' (c0++ds++c2)
 | [],v,x,v',h,_,cs,ds,hv,hx=>by
  simp only[AV.set] at h;cases hb:Nat.beq x.size v.size with
  | false=>rw[hb] at h; cases h
  | true =>
   rw[hb] at h; cases h;exact ⟨[],cs,[],by simp,rfl,by rw[RC_len _ _ hv,RC_len _ _ hx,eb9 hb],by simpa using hx⟩
 | .fld k l off :: p,v,x,v',h,hp,cs,ds,hv,hx=>by
  simp only[AV.set] at h;split at h
  ·rename_i a ha;split at h
   ·rename_i a' ha';simp only[AV.sel] at ha;split at ha
    ·rename_i o b hc;cases hb:Nat.beq o off with
     | false=>rw[hb] at ha; cases ha
     | true =>
      rw[hb] at ha; cases ha;have ho':=eb9 hb;subst ho';obtain ⟨c0,c1,c2,e,ho,ha1⟩:=Y4f k l v 0 _ _ hc cs hv;obtain ⟨d0,d1,d2,e1,hd0,hd1,ha2⟩:=set_ok hf p _ x a' ha' (fun s hs=>hp s (by simp[hs])) c1 ds ha1 hx;refine ⟨c0++d0,d1,d2++c2,by simp[e,e1],by simp only[Path.off,Sel.off,ln9]; omega,hd1,?_⟩;have:=put_ok k l v 0 _ _ a' v' hc h c0 c1 c2 _ (by rw[<- e]; exact hv) ho ha1 ha2;simpa using this
    ·cases ha
   ·cases h
  ·cases h
 | .inn :: p,v,x,v',h,hp,cs,ds,hv,hx=>by
  simp only[AV.set] at h;split at h
  ·rename_i a ha;split at h
   ·rename_i a' ha';cases h
    have ha1:RC g w ok a cs:=by
     simp only[AV.sel] at ha;split at ha
     ·cases ha; exact hv
     ·cases ha; exact hv
     ·cases ha
    obtain ⟨d0,d1,d2,e1,hd0,hd1,ha2⟩:=set_ok hf p _ x a' ha' (fun s hs=>hp s (by simp[hs])) cs ds ha1 hx;exact ⟨d0,d1,d2,e1,by simp only[Path.off,Sel.off]; omega,hd1,mk1_ok ha2⟩
   ·cases h
  ·cases h
 | .idx i sz k :: p,v,x,v',h,hp,cs,ds,hv,hx=>by
  simp only[AV.set] at h;split at h
  ·rename_i q t xs;cases hb:Nat.beq k q && Nat.beq sz t.size with
   | false=>rw[hb] at h; cases h
   | true =>
    rw[hb] at h;rw[ba9] at hb;have e1:=eb9 hb.1;have e2:=eb9 hb.2;subst e1 e2;simp only[cond_true] at h;split at h
    ·rename_i a' ha';split at h
     ·rename_i y hy;cases h;obtain ⟨hl,hr⟩:=hv;have hi:i < List.length (α:=t.T) xs:=by rw[hl]; exact hp (.idx i t.size k) (by simp)
      have hR:=fun x cs h=>Rd_len w ok t x cs h
      have h1:=RdL_at hR xs cs hr i t.zero hi;have hlen:=Yx hR xs cs hr;have hle:(i+1) * t.size <= List.length (α:=t.T) xs * t.size:=Nat.mul_le_mul_right _ hi;rw[Nat.add_mul,Nat.one_mul] at hle;obtain ⟨d0,d1,d2,e3,hd0,hd1,ha2⟩:=set_ok hf p _ x a' ha' (fun s hs=>hp s (by simp[hs])) _ ds h1 hx;have hy2:=Y56 hf a' t y hy _ ha2;have hset:=Y12 hR xs cs hr i y _ hi hy2;refine ⟨cs.take (i * t.size)++d0,d1,d2++cs.drop (i * t.size+t.size),?_,?_,hd1,?_,?_⟩
      ·have:cs=cs.take (i * t.size)++((cs.drop (i * t.size)).take t.size++(cs.drop (i * t.size)).drop t.size):=by
        rw[List.take_append_drop,List.take_append_drop]
       rw[e3,List.drop_drop] at this;simpa using this
      ·simp only[Path.off,Sel.off,ln9,List.length_take]; omega
      ·exact (List.length_set (as:=(xs:List t.T)) (i:=i) (a:=y)).trans hl
      ·simpa using hset
     ·cases h
    ·cases h
  ·cases h
 | .row i sz :: p,v,x,v',h,hp,cs,ds,hv,hx=>by cases h
end
theorem Ybs (n k:Nat) (B:Blk) (m:Mem):mget n ((k,B) :: m)=if k=n then B else mget n m:=by
 show (bif Nat.beq k n then B else mget n m)=_;by_cases h:k=n
 ·subst h; rw[Nat.beq_refl]; simp
 ·rw[if_neg h];cases hb:Nat.beq k n with
  | false=>rfl
  | true=>exact absurd (eb9 hb) h
theorem Y6i (n k:Nat) (v:AV) (f:Fr):fget n ((k,v) :: f)=if k=n then v else fget n f:=by
 show (bif Nat.beq k n then v else fget n f)=_;by_cases h:k=n
 ·subst h; rw[Nat.beq_refl]; simp
 ·rw[if_neg h];cases hb:Nat.beq k n with
  | false=>rfl
  | true=>exact absurd (eb9 hb) h
section
variable {g:G} {X:Nat->Prop} {m:Mem} {w:World}
theorem Inv.lt (hI:Inv g X m w) {τ:Nat} (h:mget τ m ≠ .gone):g.dom τ:=Classical.byContradiction fun h1=>h (hI.fresh τ h1)
theorem Inv.live_lt (hI:Inv g X m w) {τ:Nat} (h:(mget τ m).live=true):g.dom τ:=hI.lt (fun e=>by rw[e] at h; cases h)
theorem Inv.ndom (hI:Inv g X m w):¬ g.dom g.n:=fun h=>absurd (hI.dlt _ h) (Nat.lt_irrefl _)
theorem Inv.ne (hI:Inv g X m w) {τ:Nat} (h:g.dom τ):τ ≠ g.n:=fun e=>hI.ndom (e ▸ h)
theorem Inv.heap_lt (hI:Inv g X m w) {τ:Nat} (h:Lv g m τ):(g.loc τ).blk < w.heap.size:=by
 have hB:=hI.ok τ;obtain ⟨h,hn⟩:=h;cases hm:mget τ m with
 | var v=>rw[hm] at hB; obtain ⟨_,_,_,c,e,h3,_⟩:=hB; exact Yb1 h3
 | row t xs =>
  rw[hm] at hB;obtain ⟨_,_,h0⟩:=hB;rcases h0 with ⟨h0,_⟩ | ⟨_,c,e,cells,h3,_⟩
  ·rw[hn] at h0; cases h0
  ·exact Yb1 h3
 | frz t xs=>rw[hm] at h; cases h
 | mp kt vt l=>rw[hm] at hB; obtain ⟨_,es,h3,_⟩:=hB; exact Yb1 h3
 | lp id sl sv tag=>rw[hm] at hB; obtain ⟨_,rt,fn,tmps,D,st,pe,vs,_,h3,_⟩:=hB; exact Yb1 h3
 | fm ks vs=>rw[hm] at hB; obtain ⟨_,es,cvs,h3,_⟩:=hB; exact Yb1 h3
 | mo kt t l hh=>rw[hm] at hB; obtain ⟨_,es,h3,_⟩:=hB; exact Yb1 h3
 | gone=>rw[hm] at h; cases h
def MoLe (g:G) (m:Mem) (g':G) (m':Mem):Prop:=∀ τ i,(mget τ m').has i=true->(mget τ m).has i=true/\g'.sub τ i=g.sub τ i
theorem MoLe.sb {g':G} {m':Mem} (h:MoLe g m g' m') {τ i:Nat} (k:Sb g' m' τ i):Sb g m τ i/\g'.sub τ i=g.sub τ i:=by
 obtain ⟨h1,h2⟩:=h τ i k.1;exact ⟨⟨h1,by rw[<- h2]; exact k.2⟩,h2⟩
theorem MoLe.own {g':G} {m':Mem} (h:MoLe g m g' m') {b:Nat}:OwnS g' m' b->OwnS g m b:=fun ⟨τ,i,k1,k2⟩=>⟨τ,i,(h.sb k1).1,by rw[<- (h.sb k1).2]; exact k2⟩
theorem MoLe.refl (g:G) (m:Mem):MoLe g m g m:=fun τ i h=>⟨h,rfl⟩
theorem MoLe.cons {g':G} {τ:Nat} {B:Blk} (hB:∀ i,B.has i=false) (h:g'.sub=g.sub):MoLe g m g' ((τ,B) :: m):=fun σ i k=>by
 rw[Ybs] at k;split at k
 ·rw[hB i] at k; cases k
 ·exact ⟨k,by rw[h]⟩
theorem MoLe.trans {g1 g2:G} {m1 m2:Mem} (h:MoLe g m g1 m1) (k:MoLe g1 m1 g2 m2):MoLe g m g2 m2:=fun τ i q=>⟨(h τ i (k τ i q).1).1,(k τ i q).2.trans (h τ i (k τ i q).1).2⟩
def LvLe (g:G) (m:Mem) (w:World) (g':G) (m':Mem):Prop:=∀ σ,Lv g' m' σ->(∃ σ',Lv g m σ'/\(g'.loc σ).blk=(g.loc σ').blk) \/ w.heap.size <= (g'.loc σ).blk
theorem Inv.sbk (hI:Inv g X m w) {g':G} {m':Mem} {w':World} (hmo:MoLe g m g' m') (hs:w.heap.size <= w'.heap.size) (hlv:LvLe g m w g' m') :
  ∀ τ i,Sb g' m' τ i->(g'.sub τ i).blk < w'.heap.size/\¬ X (g'.sub τ i).blk/\(∀ σ,Lv g' m' σ->(g'.loc σ).blk ≠ (g'.sub τ i).blk)/\∀ σ j,Sb g' m' σ j->(g'.sub σ j).blk=(g'.sub τ i).blk->σ=τ/\j=i:=by
 intro τ i k;obtain ⟨k1,k2⟩:=hmo.sb k;obtain ⟨q1,q2,q3,q4⟩:=hI.sb τ i k1;rw[k2];refine ⟨by omega,q2,fun σ hσ e=>?_,fun σ j hσ e=>?_⟩
 ·rcases hlv σ hσ with ⟨σ',p1,p2⟩ | p
  ·exact q3 σ' p1 (by rw[<- p2]; exact e)
  ·omega
 ·obtain ⟨p1,p2⟩:=hmo.sb hσ;exact q4 σ j p1 (by rw[<- p2]; exact e)
theorem Inv.step (hI:Inv g X m w) {g':G} {m':Mem} {w':World} (hx:Ext g m w g' m' w')
  (hok:∀ τ,(g.dom τ/\mget τ m'=mget τ m/\(Lv g m τ->w'.heap[(g.loc τ).blk]?=w.heap[(g.loc τ).blk]?)/\∀ i,Sb g m τ i->w'.heap[(g.sub τ i).blk]?=w.heap[(g.sub τ i).blk]?) \/ BOK g' w' (okB X g' m') τ (mget τ m'))
  (inj:∀ τ τ',Lv g' m' τ->Lv g' m' τ'->(g'.loc τ).blk=(g'.loc τ').blk->τ=τ')
  (far:∀ τ,Lv g' m' τ->¬ X (g'.loc τ).blk) (fresh:∀ τ,¬ g'.dom τ->mget τ m'=.gone) (dlt:∀ τ,g'.dom τ->τ < g'.n) (hmo:MoLe g m g' m') (hlv:LvLe g m w g' m'):Inv g' X m' w':=by
 refine ⟨fun τ=>?_,inj,far,fun b hb=>Nat.lt_of_lt_of_le (hI.xlt b hb) hx.size,fresh,dlt,hI.sbk hmo hx.size hlv⟩;rcases hok τ with ⟨h1,h2,h3,h4⟩ | h
 ·rw[h2]; exact Y1 hx.gx hx.holds h1 (fun a b=>h3 ⟨a,b⟩) (fun i a=>⟨(hmo τ i (by rw[h2]; exact a)).2,fun b=>h4 i ⟨a,b⟩⟩) (hI.ok τ)
 ·exact h
def G.new (g:G) (L:Loc):G:={ loc:=fun τ=>if τ=g.n then L else g.loc τ,n:=g.n+1,dom:=fun τ=>g.dom τ \/ τ=g.n,rt:=g.rt,sub:=g.sub }
theorem G.new_ext (g:G) (L:Loc) (hn:¬ g.dom g.n):GExt g (g.new L):=⟨⟨Nat.le_succ _,rfl⟩,fun τ h=>⟨.inl h,by show (if τ=g.n then _ else _)=_; rw[if_neg (fun e:τ=g.n=>hn (e ▸ h))]⟩⟩
theorem G.new_nw (g:G) (L:Loc):∀ τ,(g.new L).dom τ->g.dom τ \/ g.n <= τ:=fun τ h=>h.imp id (fun e=>by omega)
theorem G.new_self (g:G) (L:Loc):(g.new L).loc g.n=L:=by show (if g.n=g.n then _ else _)=_; rw[if_pos rfl]
theorem G.new_old (g:G) (L:Loc) {τ:Nat} (h:τ ≠ g.n):(g.new L).loc τ=g.loc τ:=by show (if τ=g.n then _ else _)=_; rw[if_neg h]
theorem Lv_new {L:Loc} {B:Blk} {τ:Nat} (h:Lv (g.new L) ((g.n,B) :: m) τ) (hne:τ ≠ g.n):Lv g m τ:=by
 obtain ⟨h1,h2⟩:=h;rw[Ybs,if_neg (fun e=>hne e.symm)] at h1;rw[g.new_old L hne] at h2;exact ⟨h1,h2⟩
theorem Ext.alloc (hI:Inv g X m w) (o:Obj) (B:Blk) (L:Loc) (hL:L.blk=w.heap.size) (hB0:∀ i,B.has i=false:=by exact fun _=>rfl):Ext g m w (g.new L) ((g.n,B) :: m) (w.alloc o):=by
 refine ⟨g.new_ext L hI.ndom,g.new_nw L,by simp,fun b hb _=>?_,fun b hb=>hb.elim (fun ⟨τ,h1,h2⟩=>?_) (fun hb=>.inl (.inr ((MoLe.cons hB0 rfl).own hb))),rfl,rfl,rfl⟩
 ·show (w.heap.push o)[b]?=_;rw[Array.getElem?_push,if_neg (by omega)]
 ·by_cases e:τ=g.n
  ·subst e; rw[g.new_self] at h2; right; omega
  ·rw[g.new_old L e] at h2;exact .inl (.inl ⟨τ,Lv_new h1 e,h2⟩)
theorem Ext.fresh (hI:Inv g X m w) (B:Blk) (L:Loc) (hL:L.nil=true) (hB0:∀ i,B.has i=false:=by exact fun _=>rfl):Ext g m w (g.new L) ((g.n,B) :: m) w:=by
 refine ⟨g.new_ext L hI.ndom,g.new_nw L,Nat.le_refl _,fun b hb _=>rfl,fun b hb=>hb.elim (fun ⟨τ,h1,h2⟩=>?_) (fun hb=>.inl (.inr ((MoLe.cons hB0 rfl).own hb))),rfl,rfl,rfl⟩;by_cases e:τ=g.n
 ·subst e; have:=h1.2; rw[g.new_self,hL] at this; cases this
 ·rw[g.new_old L e] at h2;exact .inl (.inl ⟨τ,Lv_new h1 e,h2⟩)
theorem Inv.new (hI:Inv g X m w) {w':World} (B:Blk) (L:Loc) (hx:Ext g m w (g.new L) ((g.n,B) :: m) w') (hh:∀ b,b < w.heap.size->w'.heap[b]?=w.heap[b]?) (hL:L.nil=true \/ L.blk=w.heap.size)
  (hB:BOK (g.new L) w' (okB X (g.new L) ((g.n,B) :: m)) g.n B) (hB0:∀ i,B.has i=false:=by exact fun _=>rfl):Inv (g.new L) X ((g.n,B) :: m) w':=by
 refine hI.step hx (fun τ=>?_) (fun τ τ' h1 h2 h3=>?_) (fun τ h1=>?_) (fun τ h1=>?_) (fun τ h1=>h1.elim (fun h=>Nat.lt_succ_of_lt (hI.dlt τ h)) (fun e=>e ▸ Nat.lt_succ_self _)) (MoLe.cons hB0 rfl) (fun σ hσ=>?_)
 ·by_cases e:τ=g.n
  ·right; subst e; rw[Ybs,if_pos rfl]; exact hB
  ·by_cases hlt:g.dom τ
   ·exact .inl ⟨hlt,by rw[Ybs,if_neg (fun h=>e h.symm)],fun hl=>hh _ (hI.heap_lt hl),fun i k=>hh _ (hI.sb τ i k).1⟩
   ·right;rw[Ybs,if_neg (fun h=>e h.symm),hI.fresh τ hlt]; trivial
 ·by_cases e:τ=g.n
  ·by_cases e':τ'=g.n
   ·rw[e,e']
   ·have:=hI.heap_lt (Lv_new h2 e');have hn:=h1.2;rw[e,g.new_self] at hn;rw[e,g.new_self,g.new_old L e'] at h3;rcases hL with hL | hL
    ·rw[hL] at hn; cases hn
    ·omega
  ·by_cases e':τ'=g.n
   ·have:=hI.heap_lt (Lv_new h1 e);have hn:=h2.2;rw[e',g.new_self] at hn;rw[e',g.new_self,g.new_old L e] at h3;rcases hL with hL | hL
    ·rw[hL] at hn; cases hn
    ·omega
   ·rw[g.new_old L e,g.new_old L e'] at h3;exact hI.inj τ τ' (Lv_new h1 e) (Lv_new h2 e') h3
 ·by_cases e:τ=g.n
  ·have hn:=h1.2;rw[e,g.new_self] at hn ⊢;rcases hL with hL | hL
   ·rw[hL] at hn; cases hn
   ·rw[hL]; intro hX; have:=hI.xlt _ hX; omega
  ·rw[g.new_old L e]; exact hI.far τ (Lv_new h1 e)
 ·have h2:¬ (g.dom τ \/ τ=g.n):=h1;rw[Ybs,if_neg (fun e=>h2 (.inr e.symm))];exact hI.fresh τ (fun e=>h2 (.inl e))
 ·by_cases e:σ=g.n
  ·have hn:=hσ.2;rw[e,g.new_self] at hn ⊢;rcases hL with hL | hL
   ·rw[hL] at hn; cases hn
   ·exact .inr (by omega)
  ·exact .inl ⟨σ,Lv_new hσ e,by rw[g.new_old L e]⟩
theorem Inv.alloc (hI:Inv g X m w) (o:Obj) (B:Blk) (L:Loc) (hL:L.blk=w.heap.size)
  (hB:BOK (g.new L) (w.alloc o) (okB X (g.new L) ((g.n,B) :: m)) g.n B) (hB0:∀ i,B.has i=false:=by exact fun _=>rfl):Inv (g.new L) X ((g.n,B) :: m) (w.alloc o) :=
 hI.new B L (Ext.alloc hI o B L hL hB0) (fun b hb=>by
  show (w.heap.push o)[b]?=_;rw[Array.getElem?_push,if_neg (by omega)]) (.inr hL) hB hB0
theorem Lv_upd {τ:Nat} {B':Blk} (hl:Lv g m τ) {σ:Nat} (h:Lv g ((τ,B') :: m) σ):Lv g m σ:=by
 obtain ⟨k1,k2⟩:=h;rw[Ybs] at k1;by_cases e:τ=σ
 ·subst e; exact hl
 ·rw[if_neg e] at k1; exact ⟨k1,k2⟩
theorem Ext.upd {τ:Nat} {B':Blk} (hl:Lv g m τ) {w':World} (hs:w'.heap.size=w.heap.size)
  (ho:∀ b,b ≠ (g.loc τ).blk->w'.heap[b]?=w.heap[b]?) (h1:w'.os=w.os) (h2:w'.tape=w.tape) (h3:w'.output=w.output) (hB0:∀ i,B'.has i=false:=by exact fun _=>rfl):Ext g m w g ((τ,B') :: m) w' :=
 ⟨GExt.refl g,fun _ h=>.inl h,by omega,fun b hb hno=>ho b (fun e=>hno (.inl ⟨τ,hl,e.symm⟩)),fun b hb=>.inl (hb.imp (fun ⟨σ,k1,k2⟩=>⟨σ,Lv_upd hl k1,k2⟩) (MoLe.cons hB0 rfl).own),h1,h2,h3⟩
theorem Inv.upd (hI:Inv g X m w) {τ:Nat} {B':Blk} (hl:Lv g m τ) {w':World} (hs:w'.heap.size=w.heap.size)
  (ho:∀ b,b ≠ (g.loc τ).blk->w'.heap[b]?=w.heap[b]?) (h1:w'.os=w.os) (h2:w'.tape=w.tape) (h3:w'.output=w.output)
  (hB:BOK g w' (okB X g ((τ,B') :: m)) τ B') (hB0:∀ i,B'.has i=false:=by exact fun _=>rfl):Inv g X ((τ,B') :: m) w':=by
 have hx:Ext g m w g ((τ,B') :: m) w':=Ext.upd hl hs ho h1 h2 h3 hB0;refine hI.step hx (fun σ=>?_) (fun σ σ' k1 k2 k3=>hI.inj σ σ' (Lv_upd hl k1) (Lv_upd hl k2) k3) (fun σ k1=>hI.far σ (Lv_upd hl k1)) (fun σ k1=>?_) hI.dlt (MoLe.cons hB0 rfl) (fun σ k=>.inl ⟨σ,Lv_upd hl k,rfl⟩)
 ·by_cases e:τ=σ
  ·subst e; right; rw[Ybs,if_pos rfl]; exact hB
  ·by_cases hlt:g.dom σ
   ·left;refine ⟨hlt,by rw[Ybs,if_neg e],fun k=>ho _ (fun h=>e (hI.inj σ τ k hl h).symm),fun i k=>ho _ (fun h=>(hI.sb σ i k).2.2.1 τ hl h.symm)⟩
   ·right; rw[Ybs,if_neg e,hI.fresh σ hlt]; trivial
 ·have:=hI.live_lt hl.1;rw[Ybs,if_neg (fun e:τ=σ=>k1 (e ▸ this))]; exact hI.fresh σ k1
theorem Yc {τ:Nat} {B':Blk} (hB':B'.live=false) {σ:Nat} (h:Lv g ((τ,B') :: m) σ):Lv g m σ/\σ ≠ τ:=by
 obtain ⟨k1,k2⟩:=h;rw[Ybs] at k1;by_cases e:τ=σ
 ·rw[if_pos e,hB'] at k1; cases k1
 ·rw[if_neg e] at k1; exact ⟨⟨k1,k2⟩,fun h=>e h.symm⟩
theorem Y8i {B:Blk} (h:B.live=false) (i:Nat):B.has i=false:=by cases B <;> first | rfl | cases h
theorem Ext.drop (τ:Nat) {B':Blk} (hB':B'.live=false):Ext g m w g ((τ,B') :: m) w :=
 ⟨GExt.refl g,fun _ h=>.inl h,Nat.le_refl _,fun b hb hno=>rfl,fun b hb=>.inl (hb.imp (fun ⟨σ,k1,k2⟩=>⟨σ,(Yc hB' k1).1,k2⟩) (MoLe.cons (Y8i hB') rfl).own),rfl,rfl,rfl⟩
theorem Inv.drop (hI:Inv g X m w) (τ:Nat) (hτ:g.dom τ) {B':Blk} (hB':B'.live=false) (hB:BOK g w (okB X g ((τ,B') :: m)) τ B'):Inv g X ((τ,B') :: m) w:=by
 refine hI.step (Ext.drop τ hB') (fun σ=>?_) (fun σ σ' k1 k2 k3=>hI.inj σ σ' (Yc hB' k1).1 (Yc hB' k2).1 k3) (fun σ k1=>hI.far σ (Yc hB' k1).1) (fun σ k1=>?_) hI.dlt (MoLe.cons (Y8i hB') rfl) (fun σ k=>.inl ⟨σ,(Yc hB' k).1,rfl⟩)
 ·by_cases e:τ=σ
  ·subst e; right; rw[Ybs,if_pos rfl]; exact hB
  ·by_cases hlt:g.dom σ
   ·exact .inl ⟨hlt,by rw[Ybs,if_neg e],fun _=>rfl,fun _ _=>rfl⟩
   ·right; rw[Ybs,if_neg e,hI.fresh σ hlt]; trivial
 ·rw[Ybs,if_neg (fun e:τ=σ=>k1 (e ▸ hτ))]; exact hI.fresh σ k1
theorem Yg {τ:Nat} {t:Ty} {xs:List t.T} (hI:Inv g X m w) (hl:Lv g m τ):okB X g ((τ,.frz t xs) :: m) (g.loc τ).blk:=by
 refine ⟨hI.far τ hl,fun hb=>hb.elim (fun ⟨σ,k1,k2⟩=>?_) (fun ⟨σ,i,k1,k2⟩=>?_)⟩
 ·obtain ⟨k3,k4⟩:=Yc rfl k1;exact k4 (hI.inj σ τ k3 hl k2)
 ·exact (hI.sb σ i ((MoLe.cons (fun _=>rfl) rfl).sb k1).1).2.2.1 τ hl k2.symm
theorem Ext.frz {τ:Nat} {t:Ty} {xs:List t.T}:Ext g m w g ((τ,.frz t xs) :: m) w:=Ext.drop τ rfl
theorem Inv.frz {τ:Nat} {t:Ty} {xs:List t.T} (hI:Inv g X m w) (hm:mget τ m=.row t xs):Inv g X ((τ,.frz t xs) :: m) w:=by
 have hx:Ext g m w g ((τ,.frz t xs) :: m) w:=Ext.frz;refine hI.drop τ (hI.live_lt (by rw[hm]; rfl)) rfl ?_;have hB:=hI.ok τ;rw[hm] at hB;obtain ⟨e1,e2,h0⟩:=hB;rcases h0 with ⟨hn,hc⟩ | ⟨hn,c,el,cells,k3,k4,k5,k6⟩
 ·refine ⟨none,(g.loc τ).cap,by show [Loc.sv _]=_; unfold Loc.sv; rw[hn,e1]; rfl,by rw[e1]; exact e2,.inl (List.length_eq_zero_iff.1 (by omega))⟩
 ·refine ⟨some ⟨(g.loc τ).blk,(g.loc τ).base,none⟩,(g.loc τ).cap,by show [Loc.sv _]=_; unfold Loc.sv; rw[hn,e1]; rfl,by rw[e1]; exact e2,?_⟩;exact .inr ⟨_,cells,rfl,Yz (fun x cs=>Y17 hx.holds t x cs) _ _ k4,rfl,Yg hI ⟨by rw[hm]; rfl,hn⟩,c,el,_,k3,k5⟩
theorem Inv.frz1 (hI:Inv g X m w) (τ:Nat):Inv g X (frz1 τ m) w/\Ext g m w g (frz1 τ m) w:=by
 unfold VX.frz1;cases hm:mget τ m with
 | row t xs=>exact ⟨hI.frz hm,Ext.frz⟩
 | _=>exact ⟨hI,Ext.refl _ _ _⟩
theorem Inv.frzL:∀ (l:List Nat) {m:Mem},Inv g X m w->Inv g X (frzL l m) w/\Ext g m w g (frzL l m) w
 | [],m,hI=>⟨hI,Ext.refl _ _ _⟩
 | τ :: l,m,hI=>by
  obtain ⟨h1,h2⟩:=hI.frz1 τ;obtain ⟨h3,h4⟩:=Inv.frzL l h1;exact ⟨h3,h2.trans h4⟩
def OwnT (g:G) (m:Mem) (τ b:Nat):Prop:=(Lv g m τ/\(g.loc τ).blk=b) \/ ∃ i,Sb g m τ i/\(g.sub τ i).blk=b
theorem Ye0 {b:Nat}:Own g m b ↔ ∃ τ,OwnT g m τ b:=by
 constructor
 ·rintro (⟨τ,h1,h2⟩ | ⟨τ,i,h1,h2⟩)
  ·exact ⟨τ,.inl ⟨h1,h2⟩⟩
  ·exact ⟨τ,.inr ⟨i,h1,h2⟩⟩
 ·rintro ⟨τ,⟨h1,h2⟩ | ⟨i,h1,h2⟩⟩
  ·exact .inl ⟨τ,h1,h2⟩
  ·exact .inr ⟨τ,i,h1,h2⟩
theorem OwnT.own {τ b:Nat} (h:OwnT g m τ b):Own g m b:=Ye0.2 ⟨τ,h⟩
theorem Inv.sb_cells (hI:Inv g X m w) {τ i:Nat} (h:Sb g m τ i):∃ c e,w.heap[(g.sub τ i).blk]?=some (.cells c e (0,0)):=by
 have hB:=hI.ok τ;obtain ⟨h1,h2⟩:=h;cases hm:mget τ m with
 | mo kt t l hh =>
  rw[hm] at hB h1;obtain ⟨_,es,_,h3,h4,_⟩:=hB
  have hl:i < l.length:=by
   cases hh with
   | none=>exact of_decide_eq_true h1
   | some p =>
    have h1:(decide (i < l.length) && !Nat.beq i p.2)=true:=h1;rw[ba9] at h1;exact of_decide_eq_true h1.1
  obtain ⟨_,_,k⟩:=h4 i es[i] l[i] (by simp[h3,hl]) (by simp[hl]);obtain ⟨_,_,_,k⟩:=k h1;rcases k with ⟨k,_⟩ | ⟨_,c,e,_,k,_⟩
  ·rw[h2] at k; cases k
  ·exact ⟨c,e,k⟩
 | _=>rw[hm] at h1; cases h1
theorem Ye1 {b:Nat}:¬ Own g [] b:=by
 rintro (⟨τ,h,_⟩ | ⟨τ,i,h,_⟩)
 ·cases h.1
 ·cases h.1
theorem Inv.uniq (hI:Inv g X m w) {τ σ b:Nat} (h:OwnT g m τ b) (k:OwnT g m σ b):τ=σ:=by
 rcases h with ⟨h1,h2⟩ | ⟨i,h1,h2⟩
 ·rcases k with ⟨k1,k2⟩ | ⟨j,k1,k2⟩
  ·exact hI.inj τ σ h1 k1 (by rw[h2,k2])
  ·exact absurd (by rw[h2,k2]) ((hI.sb σ j k1).2.2.1 τ h1)
 ·rcases k with ⟨k1,k2⟩ | ⟨j,k1,k2⟩
  ·exact absurd (by rw[h2,k2]) ((hI.sb τ i h1).2.2.1 σ k1)
  ·exact ((hI.sb τ i h1).2.2.2 σ j k1 (by rw[h2,k2])).1.symm
theorem Inv.ownlt (hI:Inv g X m w) {b:Nat} (h:Own g m b):b < w.heap.size:=by
 rcases h with ⟨τ,h1,h2⟩ | ⟨τ,i,h1,h2⟩
 ·rw[<- h2]; exact hI.heap_lt h1
 ·rw[<- h2]; exact (hI.sb τ i h1).1
theorem Inv.ownfar (hI:Inv g X m w) {b:Nat} (h:Own g m b):¬ X b:=by
 rcases h with ⟨τ,h1,h2⟩ | ⟨τ,i,h1,h2⟩
 ·rw[<- h2]; exact hI.far τ h1
 ·rw[<- h2]; exact (hI.sb τ i h1).2.1
theorem Lv.own {τ b:Nat} (h:Lv g m τ) (e:(g.loc τ).blk=b):Own g m b:=.inl ⟨τ,h,e⟩
theorem Own.drop {τ:Nat} {B':Blk} (hB':B'.live=false) {b:Nat} (h:Own g ((τ,B') :: m) b):Own g m b:=h.imp (fun ⟨σ,k1,k2⟩=>⟨σ,(Yc hB' k1).1,k2⟩) (MoLe.cons (Y8i hB') rfl).own
theorem Ext.kill (τ:Nat):Ext g m w g ((τ,.gone) :: m) w:=Ext.drop τ rfl
theorem Inv.kill (hI:Inv g X m w) (τ:Nat) (hτ:g.dom τ):Inv g X ((τ,.gone) :: m) w:=hI.drop τ hτ rfl trivial
theorem Yd {τ:Nat} {B':Blk} {L:Loc} {σ:Nat} (h:Lv (g.new L) ((g.n,B') :: (τ,.gone) :: m) σ) (hne:σ ≠ g.n):Lv g m σ/\σ ≠ τ:=Yc rfl (Lv_new h hne)
theorem Ext.move {τ:Nat} (hn:¬ g.dom g.n) (hl:Lv g m τ) (B':Blk) (L:Loc) (hL:L.blk=(g.loc τ).blk) {w':World} (hs:w'.heap.size=w.heap.size)
  (ho:∀ b,b ≠ (g.loc τ).blk->w'.heap[b]?=w.heap[b]?) (h1:w'.os=w.os) (h2:w'.tape=w.tape) (h3:w'.output=w.output) (hB0:∀ i,B'.has i=false:=by exact fun _=>rfl):Ext g m w (g.new L) ((g.n,B') :: (τ,.gone) :: m) w':=by
 refine ⟨g.new_ext L hn,g.new_nw L,by omega,fun b hb hno=>ho b (fun e=>hno (.inl ⟨τ,hl,e.symm⟩)),fun b hb=>.inl (hb.imp (fun ⟨σ,k1,k2⟩=>?_) (((MoLe.cons (fun _=>rfl) rfl).trans (MoLe.cons hB0 rfl)).own (g:=g) (m:=m))),h1,h2,h3⟩;by_cases e:σ=g.n
 ·subst e; rw[g.new_self,hL] at k2; exact ⟨τ,hl,k2⟩
 ·rw[g.new_old L e] at k2;exact ⟨σ,(Yd k1 e).1,k2⟩
theorem Inv.move {τ:Nat} (hI:Inv g X m w) (hl:Lv g m τ) (B':Blk) (L:Loc) (hL:L.blk=(g.loc τ).blk) {w':World} (hs:w'.heap.size=w.heap.size)
  (ho:∀ b,b ≠ (g.loc τ).blk->w'.heap[b]?=w.heap[b]?) (h1:w'.os=w.os) (h2:w'.tape=w.tape) (h3:w'.output=w.output)
  (hB:BOK (g.new L) w' (okB X (g.new L) ((g.n,B') :: (τ,.gone) :: m)) g.n B') (hB0:∀ i,B'.has i=false:=by exact fun _=>rfl):Inv (g.new L) X ((g.n,B') :: (τ,.gone) :: m) w':=by
 have hx:=Ext.move hI.ndom hl B' L hL hs ho h1 h2 h3 hB0;have hτ:=hI.live_lt hl.1;refine hI.step hx (fun σ=>?_) (fun σ σ' k1 k2 k3=>?_) (fun σ k1=>?_) (fun σ k1=>?_) (fun σ h1=>h1.elim (fun h=>Nat.lt_succ_of_lt (hI.dlt σ h)) (fun e=>e ▸ Nat.lt_succ_self _)) ((MoLe.cons (fun _=>rfl) rfl).trans (MoLe.cons hB0 rfl)) (fun σ k=>?_)
 ·by_cases e:g.n=σ
  ·subst e; right; rw[Ybs,if_pos rfl]; exact hB
  ·by_cases e':τ=σ
   ·right; rw[Ybs,if_neg e,Ybs,if_pos e']; trivial
   ·by_cases hlt:g.dom σ
    ·left;refine ⟨hlt,by rw[Ybs,if_neg e,Ybs,if_neg e'],fun k=>ho _ (fun h=>e' (hI.inj σ τ k hl h).symm),fun i k=>ho _ (fun h=>(hI.sb σ i k).2.2.1 τ hl h.symm)⟩
    ·right; rw[Ybs,if_neg e,Ybs,if_neg e',hI.fresh σ hlt]; trivial
 ·by_cases e:σ=g.n
  ·by_cases e':σ'=g.n
   ·rw[e,e']
   ·obtain ⟨k4,k5⟩:=Yd k2 e';rw[e,g.new_self,g.new_old L e',hL] at k3;exact absurd (hI.inj τ σ' hl k4 k3).symm k5
  ·obtain ⟨k4,k5⟩:=Yd k1 e;by_cases e':σ'=g.n
   ·rw[e',g.new_self,g.new_old L e,hL] at k3;exact absurd (hI.inj σ τ k4 hl k3) k5
   ·obtain ⟨k6,k7⟩:=Yd k2 e';rw[g.new_old L e,g.new_old L e'] at k3;exact hI.inj σ σ' k4 k6 k3
 ·by_cases e:σ=g.n
  ·rw[e,g.new_self,hL]; exact hI.far τ hl
  ·rw[g.new_old L e]; exact hI.far σ (Yd k1 e).1
 ·have h2:¬ (g.dom σ \/ σ=g.n):=k1;rw[Ybs,if_neg (fun e=>h2 (.inr e.symm)),Ybs,if_neg (fun e:τ=σ=>h2 (.inl (e ▸ hτ)))]; exact hI.fresh σ (fun e=>h2 (.inl e))
 ·by_cases e:σ=g.n
  ·exact .inl ⟨τ,hl,by rw[e,g.new_self,hL]⟩
  ·exact .inl ⟨σ,(Yd k e).1,by rw[g.new_old L e]⟩
end
end Go.Proofs.YtifbgkikkiallaaGreat.VX

