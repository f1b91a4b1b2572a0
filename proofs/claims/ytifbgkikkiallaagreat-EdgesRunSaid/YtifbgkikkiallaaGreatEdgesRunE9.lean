import Derived.Test.YtifbgkikkiallaaGreatEdgesRunE8
import Derived.Orders
set_option linter.unusedVariables false
set_option linter.unusedSimpArgs false
namespace Go.Proofs.YtifbgkikkiallaaGreat.VX
def G.cut (g:G) (n:Nat):G:={ loc:=g.loc,n:=n,dom:=fun τ=>g.dom τ/\τ < n,rt:=g.rt,sub:=g.sub }
theorem Yaz {n:Nat}:∀ {a b:List Nat},ltAll n (a++b)=true->ltAll n a=true/\ltAll n b=true
 | [],b,h=>⟨rfl,h⟩
 | x :: a,b,h=>by
  have h:(Nat.blt x n && ltAll n (a++b))=true:=h;rw[ba9] at h;obtain ⟨h1,h2⟩:=Yaz h.2;exact ⟨by show (Nat.blt x n && ltAll n a)=true; rw[h.1,h1]; rfl,h2⟩
theorem Yb0 {n τ:Nat} (h:ltAll n [τ]=true):τ < n:=by
 have h:(Nat.blt τ n && true)=true:=h;rw[Bool.and_true] at h;simpa using h
mutual
theorem RC_cut {g:G} {w:World} {ok:Nat->Prop} {n:Nat}:∀ (v:AV) (cs:List Value),ltAll n v.toksA=true->RC g w ok v cs->RC (g.cut n) w ok v cs
 | .d t x,cs,_,h1=>h1
 | .pr a b,cs,ht,⟨c1,c2,e,h1,h2⟩=>⟨c1,c2,e,RC_cut a c1 (Yaz ht).1 h1,RC_cut b c2 (Yaz ht).2 h2⟩
 | .one a,cs,ht,h1=>RC_cut a cs ht h1
 | .nl,cs,_,h1=>h1
 | .sl τ,cs,ht,⟨h1,h2⟩=>⟨⟨h1,Yb0 ht⟩,h2⟩
 | .vw τ lo n sz,cs,ht,⟨h1,h2⟩=>⟨⟨h1,Yb0 ht⟩,h2⟩
 | .ptr τ p,cs,ht,⟨h1,h2,h3⟩=>⟨⟨h1,Yb0 ht⟩,h2,h3⟩
 | .va τ p n' sz,cs,ht,⟨h1,h2,h3⟩=>⟨⟨h1,Yb0 ht⟩,h2,h3⟩
 | .nilp,cs,_,h1=>h1
 | .pv t x,cs,_,h1=>h1
 | .mp τ,cs,ht,⟨h1,h2⟩=>⟨⟨h1,Yb0 ht⟩,h2⟩
 | .nilm,cs,_,h1=>h1
 | .fn f a b,cs,ht,⟨fs,ks,h1,h2,e⟩=>⟨fs,ks,RL_cut a fs (Yaz ht).1 h1,RL_cut b ks (Yaz ht).2 h2,e⟩
 | .nilf,cs,_,h1=>h1
 | .ifc t v,cs,ht,⟨cv,e,h1,h2⟩=>⟨cv,e,fun ha=>let ⟨ds,e,h3⟩:=h1 ha; ⟨ds,e,RC_cut v ds ht h3⟩,fun ha=>RC_cut v [cv] ht (h2 ha)⟩
 | .nili,cs,_,h1=>h1
 | .yl τ,cs,ht,⟨h1,h2⟩=>⟨⟨h1,Yb0 ht⟩,h2⟩
 | .tu vs,cs,ht,⟨l,h1,e⟩=>⟨l,RL_cut vs l ht h1,e⟩
 | .nil,_,_,h1=>h1
 | .cons _ _,_,_,h1=>h1
 | .dead,cs,_,h1=>h1
theorem RL_cut {g:G} {w:World} {ok:Nat->Prop} {n:Nat}:∀ (v:AV) (l:List Value),ltAll n v.toksA=true->RL g w ok v l->RL (g.cut n) w ok v l
 | .nil,l,_,h1=>h1
 | .cons a b,l,ht,⟨v,l',e,⟨h1,h2⟩,h3⟩=>⟨v,l',e,⟨fun ha=>let ⟨ds,e,h4⟩:=h1 ha; ⟨ds,e,RC_cut a ds (Yaz ht).1 h4⟩,fun ha=>RC_cut a [v] (Yaz ht).1 (h2 ha)⟩,RL_cut b l' (Yaz ht).2 h3⟩
 | .d _ _,_,_,h1=>h1.elim
 | .pr _ _,_,_,h1=>h1.elim
 | .one _,_,_,h1=>h1.elim
 | .nl,_,_,h1=>h1.elim
 | .sl _,_,_,h1=>h1.elim
 | .vw _ _ _ _,_,_,h1=>h1.elim
 | .ptr _ _,_,_,h1=>h1.elim
 | .va _ _ _ _,_,_,h1=>h1.elim
 | .nilp,_,_,h1=>h1.elim
 | .pv _ _,_,_,h1=>h1.elim
 | .mp _,_,_,h1=>h1.elim
 | .nilm,_,_,h1=>h1.elim
 | .fn _ _ _,_,_,h1=>h1.elim
 | .nilf,_,_,h1=>h1.elim
 | .ifc _ _,_,_,h1=>h1.elim
 | .nili,_,_,h1=>h1.elim
 | .yl _,_,_,h1=>h1.elim
 | .tu _,_,_,h1=>h1.elim
 | .dead,_,_,h1=>h1.elim
end
theorem RV_cut {g:G} {w:World} {ok:Nat->Prop} {n:Nat} {v:AV} {cv:Value} (ht:ltAll n v.toksA=true) (h:RV g w ok v cv):RV (g.cut n) w ok v cv :=
 ⟨fun ha=>let ⟨ds,e,h2⟩:=h.1 ha; ⟨ds,e,RC_cut v ds ht h2⟩,fun ha=>RC_cut v _ ht (h.2 ha)⟩
theorem Y0 {g:G} {w:World} {ok:Nat->Prop} {n τ:Nat} {B:Blk} (ht:ltAll n B.toksA=true) (h:BOK g w ok τ B):BOK (g.cut n) w ok τ B:=by
 cases B with
 | var v=>obtain ⟨h1,h2,h3,c,e,h4,h5⟩:=h; exact ⟨h1,h2,h3,c,e,h4,RC_cut v _ ht h5⟩
 | row t xs=>exact h
 | frz t xs=>exact h
 | mp kt vt l=>exact h
 | lp id sl sv tag=>obtain ⟨h1,rt,fn,tmps,D,st,pe,vs,h2,h3,h4,h5,h6,h7⟩:=h; exact ⟨h1,rt,fn,tmps,D,st,pe,vs,h2,h3,h4,RL_cut sv vs ht h5,h6,h7⟩
 | fm ks vs=>obtain ⟨h1,es,cvs,h2,h3,h4,h5,h6⟩:=h; exact ⟨h1,es,cvs,h2,h3,h4,RL_cut vs cvs ht h5,h6⟩
 | mo kt t l hh =>
  obtain ⟨h1,es,h2,h3,h4,h5⟩:=h;refine ⟨h1,es,h2,h3,h4,fun σ j e=>?_⟩;subst e;obtain ⟨k1,k2,k3⟩:=h5 σ j rfl;exact ⟨k1,⟨k2,Yb0 ht⟩,k3⟩
 | gone=>trivial
theorem Ybt (S:List Nat) (τ:Nat):∀ (m:Mem),mget τ (restr S m)=bif memN τ S then mget τ m else .gone
 | []=>by cases memN τ S <;> rfl
 | (n,B) :: m=>by
  have ih:=Ybt S τ m;show mget τ (bif memN n S then (n,B) :: restr S m else restr S m)=_;cases hn:memN n S with
  | true =>
   rw[cond_true,Ybs,Ybs];split
   ·rename_i e; subst e; rw[hn]; rfl
   ·exact ih
  | false =>
   rw[cond_false,Ybs,ih];split
   ·rename_i e; subst e; rw[hn]; rfl
   ·rfl
theorem Ybj {N τ:Nat}:∀ {m:Mem},memLt N m=true->ltAll N (mget τ m).toksA=true/\(mget τ m ≠ .gone->τ < N)
 | [],_=>⟨rfl,fun h=>(h rfl).elim⟩
 | (n,B) :: m,h=>by
  have h:(Nat.blt n N && (ltAll N B.toksA && memLt N m))=true:=h;rw[ba9,ba9] at h;rw[Ybs];split
  ·rename_i e; subst e; exact ⟨h.2.1,fun _=>by simpa using h.1⟩
  ·exact Ybj h.2.2
theorem Ybk {S:List Nat} {τ:Nat} {m:Mem} (h:mget τ (restr S m) ≠ .gone):memN τ S=true/\mget τ (restr S m)=mget τ m:=by
 rw[Ybt] at h ⊢;cases hs:memN τ S with
 | true=>exact ⟨rfl,rfl⟩
 | false=>rw[hs] at h; exact (h rfl).elim
section
variable {P:Program} {C:Ctx} {X:Nat->Prop} {w:World} {g:G} {m:Mem}
def restX (X:Nat->Prop) (g:G) (m:Mem) (S:List Nat) (b:Nat):Prop:=X b \/ ∃ τ,memN τ S=false/\OwnT g m τ b
theorem Ye {n:Nat} {S:List Nat} {τ:Nat} (h:Lv (g.cut n) (restr S m) τ):memN τ S=true/\Lv g m τ:=by
 obtain ⟨h1,h2⟩:=h;obtain ⟨h3,h4⟩:=Ybk (S:=S) (τ:=τ) (m:=m) (fun e=>by rw[e] at h1; cases h1);rw[h4] at h1;exact ⟨h3,h1,h2⟩
theorem Y1a {n:Nat} {S:List Nat} {τ i:Nat} (h:Sb (g.cut n) (restr S m) τ i):memN τ S=true/\Sb g m τ i:=by
 obtain ⟨h1,h2⟩:=h;obtain ⟨h3,h4⟩:=Ybk (S:=S) (τ:=τ) (m:=m) (fun e=>by rw[e] at h1; cases h1);rw[h4] at h1;exact ⟨h3,h1,h2⟩
theorem Yf {n:Nat} {S:List Nat} {τ b:Nat} (h:OwnT (g.cut n) (restr S m) τ b):memN τ S=true/\OwnT g m τ b:=by
 rcases h with ⟨h1,h2⟩ | ⟨i,h1,h2⟩
 ·exact ⟨(Ye h1).1,.inl ⟨(Ye h1).2,h2⟩⟩
 ·exact ⟨(Y1a h1).1,.inr ⟨i,(Y1a h1).2,h2⟩⟩
theorem Yi {n:Nat} {S:List Nat} {b:Nat} (h:Own (g.cut n) (restr S m) b):Own g m b:=by
 obtain ⟨τ,h1⟩:=Ye0.1 h;exact (Yf h1).2.own
theorem Y8m {n:Nat} {S:List Nat}:Holds w (okB X g m) w (okB (restX X g m S) (g.cut n) (restr S m)):=fun b hb _ =>
 ⟨⟨fun h=>h.elim hb.1 (fun ⟨τ,_,h1⟩=>hb.2 h1.own),fun h=>hb.2 (Yi h)⟩,rfl⟩
theorem Inv.cut (hI:Inv g X m w) {n:Nat} {S:List Nat} (hm:memLt n (restr S m)=true):Inv (g.cut n) (restX X g m S) (restr S m) w:=by
 refine ⟨fun τ=>?_,fun τ τ' h1 h2 h3=>?_,fun τ h1 h2=>?_,fun b hb=>?_,fun τ hd=>?_,fun τ h=>h.2,fun τ i h=>?_⟩
 ·by_cases hne:mget τ (restr S m)=.gone
  ·rw[hne]; trivial
  ·obtain ⟨h3,h4⟩:=Ybk hne;obtain ⟨k1,k2⟩:=Ybj (τ:=τ) hm;rw[h4] at k1 hne ⊢;exact Y1 (GExt.refl _) Y8m (show (g.cut n).dom τ from ⟨hI.lt hne,k2 (by rw[h4]; exact hne)⟩) (fun _ _=>rfl) (fun _ _=>⟨rfl,fun _=>rfl⟩) (Y0 k1 (hI.ok τ))
 ·exact hI.inj τ τ' (Ye h1).2 (Ye h2).2 h3
 ·obtain ⟨k1,k2⟩:=Ye h1;rcases h2 with h2 | ⟨τ',q1,q2⟩
  ·exact hI.far τ k2 h2
  ·have:=hI.uniq q2 (.inl ⟨k2,rfl⟩);subst this;rw[k1] at q1; cases q1
 ·rcases hb with hb | ⟨τ,_,h1⟩
  ·exact hI.xlt b hb
  ·exact hI.ownlt h1.own
 ·refine Classical.byContradiction fun hne=>hd ?_
  obtain ⟨h3,h4⟩:=Ybk hne;exact ⟨hI.lt (by rw[<- h4]; exact hne),(Ybj hm).2 hne⟩
 ·obtain ⟨k1,k2⟩:=Y1a h;obtain ⟨q1,q2,q3,q4⟩:=hI.sb τ i k2;refine ⟨q1,fun hX=>?_,fun σ hσ=>q3 σ (Ye hσ).2,fun σ j hσ=>q4 σ j (Y1a hσ).2⟩;rcases hX with hX | ⟨σ,p1,p2⟩
  ·exact q2 hX
  ·have:=hI.uniq p2 (.inr ⟨i,k2,rfl⟩);subst this;rw[k1] at p1; cases p1
end
def upd {α:Type} (f:Nat->α) (i:Nat) (x:α) (j:Nat):α:=if j=i then x else f j
theorem Yk7 {α:Type} (f:Nat->α) (i:Nat) (x:α):upd f i x i=x:=if_pos rfl
theorem upd_ne {α:Type} (f:Nat->α) (i:Nat) (x:α) {j:Nat} (h:j ≠ i):upd f i x j=f j:=if_neg h
structure Tr where
 F:Nat->Fr
 M:Nat->Mem
 N:Nat->Nat
 v:Nat->AV
 δ:Nat->Mem
 S:Nat->List Nat
 go:Nat->Bool
def Tr.at (T:Tr) (i:Nat) (fr:Fr) (m:Mem) (N:Nat) (v:AV) (δ:Mem) (S:List Nat) (go:Bool):Tr :=
 ⟨upd T.F i fr,upd T.M i m,upd T.N i N,upd T.v i v,upd T.δ i δ,upd T.S i S,upd T.go i go⟩
def opF (T:Tr) (i:Nat) (o:Oper):Fr:=rfr (T.F i) (tmpsOf (opTs o.op))
structure TrS (C:Ctx) (all:Array Oper) (T:Tr) (i:Nat) (o:Oper):Prop where
 mem:T.M (i+1)=T.δ i++T.M i
 fr:∀ t,fget t (T.F (i+1))=if o.dst=some t then T.v i else fget t (T.F i)
 dst:∀ d,o.dst=some d->d < C.nt
 le:T.N i <= T.N (i+1)
 run:T.go i=true->ltAll (T.N i) (frToks (opF T i o))=true/\memLt (T.N i) (restr (T.S i) (T.M i))=true /\
  ∀ {R:Type} (k kp:AV->Mem->Nat->Option R),aop C o.op o.type (opF T i o) (restr (T.S i) (T.M i)) (T.N i) k kp=k (T.v i) (T.δ i++restr (T.S i) (T.M i)) (T.N (i+1))
 sE:T.go i=true->T.S i=opS o.op (opF T i o) (T.M i)
 skip:T.go i=false->T.v i=.tu .nil/\T.δ i=[]/\T.N (i+1)=T.N i
 guard:(o.guard=none->T.go i=true)/\∀ j want,o.guard=some (j,want)->∃ gs,Y8f all j=some gs/\gs < C.nt /\
  ((∃ b:Bool,fget gs (T.F i)=.d .bool b/\T.go i=(b == want)) \/ (fget gs (T.F i)=.tu .nil/\T.go i=false))
def farW (S W S' W':List Nat):Prop:=disj W S'=true/\disj W' S=true/\disj W W'=true
theorem TrS.at {C:Ctx} {all:Array Oper} {T:Tr} {j:Nat} {o:Oper} (h:TrS C all T j o) {i:Nat} (hij:i < j) (fr:Fr) (m:Mem) (N:Nat) (v:AV) (δ:Mem) (S:List Nat) (go:Bool):TrS C all (T.at i fr m N v δ S go) j o:=by
 have h1:j ≠ i:=by omega
 have h2:j+1 ≠ i:=by omega
 obtain ⟨q1,q2,q3,q4,q5,q8,q6,q7⟩:=h;constructor <;> first | assumption | (simp only[Tr.at,opF,upd_ne _ _ _ h1,upd_ne _ _ _ h2]; assumption)
theorem Yg0 {f f':Fr} (h:∀ t,fget t f=fget t f'):∀ (l:List Nat),rfr f l=rfr f' l
 | []=>rfl
 | t :: l=>by show (t,fget t f) :: rfr f l=(t,fget t f') :: rfr f' l; rw[h t,Yg0 h l]
theorem Ycs {W:List Nat} (h:nilL W=true):W=[]:=by
 cases W with
 | nil=>rfl
 | cons a W=>cases h
theorem Y3s {all:Array Oper} {i mask:Nat} {S W:List Nat}:∀ {tr:List (Nat × List Nat × List Nat)} {q:Bool},clash all i mask S W q tr=true->∀ (pre:List (Nat × List Nat × List Nat)) e post,tr=pre++e :: post->tbit mask e.1=false ->
  farW S W e.2.1 e.2.2 \/ (q=true/\e.2.2=[]/\exOK all e.1 i=true/\∀ e' ∈ pre,e'.2.2=[])
 | [],q,_,pre,e,post,he,_=>by cases pre <;> cases he
 | (j,S',W') :: l,q,h,pre,e,post,he,hb=>by
  have h:((bif tbit mask j then true else (disj W S' && (disj W' S && disj W W')) || (q && (nilL W' && exOK all j i))) && clash all i mask S W (q && nilL W') l)=true:=h;rw[ba9] at h;cases pre with
  | nil =>
   have he:=(List.cons.inj he).1;subst he;have h1:=h.1;have hb:tbit mask j=false:=hb;rw[hb,cond_false,Bool.or_eq_true] at h1;rcases h1 with h1 | h1
   ·rw[ba9,ba9] at h1;exact .inl h1
   ·rw[ba9,ba9] at h1;exact .inr ⟨h1.1,Ycs h1.2.1,h1.2.2,fun e' h=>by cases h⟩
  | cons a pre =>
   obtain ⟨he1,he2⟩:=List.cons.inj he;subst he1;rcases Y3s h.2 pre e post he2 hb with h1 | ⟨h1,h2,h3,h4⟩
   ·exact .inl h1
   ·rw[ba9] at h1;refine .inr ⟨h1.1,h2,h3,fun e' he'=>?_⟩;rcases List.mem_cons.1 he' with rfl | he'
    ·exact Ycs h1.2
    ·exact h4 e' he'
section
variable {C:Ctx} {R:Type} {all:Array Oper} {ms:List Nat}
def TrOK (C:Ctx) (all:Array Oper) (ms:List Nat) (i:Nat) (fr:Fr) (m:Mem) (N:Nat) (tr:List (Nat × List Nat × List Nat)) (k:Fr->Mem->Nat->Option R) (r:R):Prop :=
 ∃ T:Tr,(T.F i=fr/\T.M i=m/\T.N i=N)/\(∀ j o,i <= j->all.toList[j]?=some o->TrS C all T j o) /\
  (∀ j,i <= j->j < all.size->∀ (pre:List (Nat × List Nat × List Nat)) e post,tr=pre++e :: post->tbit (getAt 0 ms j) e.1=false->farW (T.S j) (keys (T.δ j)) e.2.1 e.2.2 \/
   (e.2.2=[]/\exOK all e.1 j=true/\(∀ e' ∈ pre,e'.2.2=[])/\∀ p,i <= p->p < j->keys (T.δ p)=[])) /\
  (∀ j j',i <= j'->j' < j->j < all.size->tbit (getAt 0 ms j) j'=false->farW (T.S j) (keys (T.δ j)) (T.S j') (keys (T.δ j')) \/
   (keys (T.δ j')=[]/\exOK all j' j=true/\∀ p,j' < p->p < j->keys (T.δ p)=[])) /\
  k (T.F all.size) (T.M all.size) (T.N all.size)=some r
theorem TrOK.step {i:Nat} {fr frx:Fr} {m:Mem} {N:Nat} {tr:List (Nat × List Nat × List Nat)} {k:Fr->Mem->Nat->Option R} {r:R} {o:Oper} (ho:all.toList[i]?=some o)
  {v:AV} {δ:Mem} {S:List Nat} {go:Bool} {N':Nat} (hq:∀ t,fget t frx=fget t fr) (hd:∀ d,o.dst=some d->d < C.nt)
  (hIH:TrOK C all ms (i+1) (match o.dst with | some d=>(d,v) :: frx | none=>frx) (δ++m) N' ((i,S,keys δ) :: tr) k r)
  (hle:N <= N') (hrun:go=true->ltAll N (frToks (rfr fr (tmpsOf (opTs o.op))))=true/\memLt N (restr S m)=true /\
   ∀ {R:Type} (k kp:AV->Mem->Nat->Option R),aop C o.op o.type (rfr fr (tmpsOf (opTs o.op))) (restr S m) N k kp=k v (δ++restr S m) N')
  (hsE:go=true->S=opS o.op (rfr fr (tmpsOf (opTs o.op))) m)
  (hskip:go=false->v=.tu .nil/\δ=[]/\N'=N)
  (hguard:(o.guard=none->go=true)/\∀ j want,o.guard=some (j,want)->∃ gs,Y8f all j=some gs/\gs < C.nt/\((∃ b:Bool,fget gs fr=.d .bool b/\go=(b == want)) \/ (fget gs fr=.tu .nil/\go=false)))
  (hcl:∀ (pre:List (Nat × List Nat × List Nat)) e post,tr=pre++e :: post->tbit (getAt 0 ms i) e.1=false->farW S (keys δ) e.2.1 e.2.2 \/ (e.2.2=[]/\exOK all e.1 i=true/\∀ e' ∈ pre,e'.2.2=[])):TrOK C all ms i fr m N tr k r:=by
 obtain ⟨T,⟨t1,t2,t3⟩,t4,t5,t6,t7⟩:=hIH
 have hn:i < all.size:=by
  have:=(List.getElem?_eq_some_iff.1 ho).1;simpa using this
 have hne:all.size ≠ i:=by omega
 have h1:i+1 ≠ i:=by omega
 refine ⟨T.at i fr m N v δ S go,⟨Yk7 _ _ _,Yk7 _ _ _,Yk7 _ _ _⟩,fun j o' hj ho'=>?_,fun j hj hjn pre e post he hb=>?_,fun j j' hj' hjj hjn hb=>?_,?_⟩
 ·rcases Nat.eq_or_lt_of_le hj with rfl | hj
  ·rw[ho] at ho';obtain rfl:=oi9 ho';constructor <;> try simp only[Tr.at,opF,Yk7,upd_ne _ _ _ h1]
   ·exact t2
   ·intro t;rw[t1];cases hdd:o.dst with
    | none=>simp only[hdd]; rw[if_neg (by simp)]; exact hq t
    | some d =>
     simp only[hdd];rw[Y6i];by_cases e:d=t
     ·rw[if_pos e,if_pos (by rw[e])]
     ·rw[if_neg e,if_neg (by simpa using e)]; exact hq t
   ·exact hd
   ·rw[t3]; exact hle
   ·intro hg;obtain ⟨a1,a2,a3⟩:=hrun hg;exact ⟨a1,a2,by rw[t3]; exact a3⟩
   ·exact hsE
   ·intro hg;obtain ⟨a1,a2,a3⟩:=hskip hg;exact ⟨a1,a2,by rw[t3]; exact a3⟩
   ·exact hguard
  ·exact (t4 j o' hj ho').at hj _ _ _ _ _ _ _
 ·rcases Nat.eq_or_lt_of_le hj with rfl | hj
  ·simp only[Tr.at,Yk7];rcases hcl pre e post he hb with h3 | ⟨h3,h4,h5⟩
   ·exact .inl h3
   ·exact .inr ⟨h3,h4,h5,fun p h6 h7=>by omega⟩
  ·have h2:j ≠ i:=by omega
   simp only[Tr.at,upd_ne _ _ _ h2];rcases t5 j hj hjn ((i,S,keys δ) :: pre) e post (by rw[he]; rfl) hb with h3 | ⟨h3,h4,h5,h6⟩
   ·exact .inl h3
   ·refine .inr ⟨h3,h4,fun e' he'=>h5 e' (List.mem_cons_of_mem _ he'),fun p h7 h8=>?_⟩;rcases Nat.eq_or_lt_of_le h7 with rfl | h7
    ·rw[Yk7]; exact h5 _ (List.mem_cons_self ..)
    ·rw[upd_ne _ _ _ (show p ≠ i by omega)]; exact h6 p h7 h8
 ·have h2:j ≠ i:=by omega
  rcases Nat.eq_or_lt_of_le hj' with rfl | hj'
  ·simp only[Tr.at,upd_ne _ _ _ h2,Yk7];rcases t5 j (by omega) hjn [] (i,S,keys δ) tr rfl hb with h3 | ⟨h3,h4,_,h6⟩
   ·exact .inl h3
   ·exact .inr ⟨h3,h4,fun p h7 h8=>by rw[upd_ne _ _ _ (show p ≠ i by omega)]; exact h6 p h7 h8⟩
  ·have h3:j' ≠ i:=by omega
   simp only[Tr.at,upd_ne _ _ _ h2,upd_ne _ _ _ h3];rcases t6 j j' hj' hjj hjn hb with h4 | ⟨h4,h5,h6⟩
   ·exact .inl h4
   ·exact .inr ⟨h4,h5,fun p h7 h8=>by rw[upd_ne _ _ _ (show p ≠ i by omega)]; exact h6 p h7 h8⟩
 ·simp only[Tr.at,upd_ne _ _ _ hne]; exact t7
theorem Yjp {α:Type} (d m:List α):(d++m).take ((d++m).length - m.length)=d:=by
 rw[ln9,Nat.add_sub_cancel,List.take_left]
theorem Y1p (hfx:(∀ f cl s,fxget f cl C.fx=some s->s.Uni)/\(∀ id sl s,ysget id C.ys=some (sl,s)->s.Uni)/\∀ (R:Type) f cl args m N k kp,C.miss (R:=R) f cl args m N k kp=none) {k:Fr->Mem->Nat->Option R} {r:R}:∀ (l:List Oper) (i:Nat),l=all.toList.drop i->i+l.length=all.size ->
  ∀ (fr:Fr) (m:Mem) (N:Nat) (tr:List (Nat × List Nat × List Nat)),aopsD C all ms l i fr m N tr k=some r->TrOK C all ms i fr m N tr k r
 | [],i,hl,hi,fr,m,N,tr,h=>by
  have hi:i=all.size:=by simpa using hi
  subst hi;refine ⟨⟨fun _=>fr,fun _=>m,fun _=>N,fun _=>.dead,fun _=>[],fun _=>[],fun _=>true⟩,⟨rfl,rfl,rfl⟩,fun j o hj ho=>?_,fun j hj hjn=>by omega,fun j j' _ _ hjn=>by omega,h⟩;have:=(List.getElem?_eq_some_iff.1 ho).1;simp at this; omega
 | o :: l,i,hl,hi,fr,m,N,tr,h=>by
  simp only[List.length_cons] at hi
  have ho:all.toList[i]?=some o:=by
   have:=congrArg (fun x=>x[0]?) hl;simp at this;simpa using this.symm
  have hl2:l=all.toList.drop (i+1):=by
   have:=congrArg List.tail hl;simpa using this
  have next:∀ (v:AV) (frx:Fr) (m':Mem) (N':Nat) (S W:List Nat),(match o.dst with
     | some d=>bif Nat.blt d C.nt then aopsD C all ms l (i+1) ((d,v) :: frx) m' N' ((i,S,W) :: tr) k else none
     | none=>aopsD C all ms l (i+1) frx m' N' ((i,S,W) :: tr) k)=some r ->
    (∀ d,o.dst=some d->d < C.nt)/\TrOK C all ms (i+1) (match o.dst with | some d=>(d,v) :: frx | none=>frx) m' N' ((i,S,W) :: tr) k r:=by
   intro v frx m' N' S W hh;cases hd:o.dst with
   | none =>
    rw[hd] at hh;exact ⟨fun d e=>(by cases e),Y1p hfx l (i+1) hl2 (by omega) _ _ _ _ hh⟩
   | some d =>
    rw[hd] at hh;obtain ⟨h1,h2⟩:=Y2j hh;exact ⟨fun d' e=>(by cases e; simpa using h1),Y1p hfx l (i+1) hl2 (by omega) _ _ _ _ h2⟩
  have skp:∀ (frx:Fr),(∀ t,fget t frx=fget t fr)->(match o.dst with
     | some d=>bif Nat.blt d C.nt then aopsD C all ms l (i+1) ((d,.tu .nil) :: frx) m N ((i,[],[]) :: tr) k else none
     | none=>aopsD C all ms l (i+1) frx m N ((i,[],[]) :: tr) k)=some r ->
    ((o.guard=none->false=true)/\∀ j want,o.guard=some (j,want)->∃ gs,Y8f all j=some gs/\gs < C.nt/\((∃ b:Bool,fget gs fr=.d .bool b/\false=(b == want)) \/ (fget gs fr=.tu .nil/\false=false))) ->
    TrOK C all ms i fr m N tr k r:=by
   intro frx hq hh hg;obtain ⟨h1,h2⟩:=next _ _ _ _ _ _ hh
   exact TrOK.step (δ:=[]) (S:=[]) (go:=false) ho hq h1 h2 (Nat.le_refl _) (fun h=>by cases h) (fun h=>by cases h) (fun _=>⟨rfl,rfl,rfl⟩) hg (fun _ e _ _ _=>.inl ⟨rfl,by
    have:∀ (W:List Nat),disj W []=true:=fun W=>by
     induction W with
     | nil=>rfl
     | cons a W ih=>show (!false && disj W [])=true; rw[ih]; rfl
    exact this _,rfl⟩)
  have run:∀ (frx:Fr),(∀ t,fget t frx=fget t fr)->∀ (f1:Fr) (S:List Nat) (m1:Mem),f1=rfr frx (tmpsOf (opTs o.op))->S=opS o.op f1 m->m1=restr S m ->
    (bif ltAll N (frToks f1) && memLt N m1 then aop C o.op o.type f1 m1 N (fun v m' N'=>v.force fun v =>
     bif Nat.ble N N' && clash all i (getAt 0 ms i) S (keys (m'.take (m'.length - m1.length))) true tr then
      match o.dst with
      | some d=>bif Nat.blt d C.nt then aopsD C all ms l (i+1) ((d,v) :: frx) (m'.take (m'.length - m1.length)++m) N' ((i,S,keys (m'.take (m'.length - m1.length))) :: tr) k else none
      | none=>aopsD C all ms l (i+1) frx (m'.take (m'.length - m1.length)++m) N' ((i,S,keys (m'.take (m'.length - m1.length))) :: tr) k
     else none) (fun _ _ _=>none) else none)=some r ->
    ((o.guard=none->true=true)/\∀ j want,o.guard=some (j,want)->∃ gs,Y8f all j=some gs/\gs < C.nt/\((∃ b:Bool,fget gs fr=.d .bool b/\true=(b == want)) \/ (fget gs fr=.tu .nil/\true=false))) ->
    TrOK C all ms i fr m N tr k r:=by
   intro frx hq f1 S m1 hf1 hSE hm1 hh hg;obtain ⟨h1,h2⟩:=Y2j hh;rw[ba9] at h1;rcases Y1o hfx h2 with ⟨v,δ,N',hu⟩ | ⟨v,δ,N',hu⟩
   ·rw[hu] at h2;have h3:=Y7k h2;rw[Yjp] at h3;obtain ⟨h4,h5⟩:=Y2j h3;rw[ba9] at h4;obtain ⟨h6,h7⟩:=next _ _ _ _ _ _ h5
    have hf2:f1=rfr fr (tmpsOf (opTs o.op)):=hf1.trans (Yg0 hq _);subst hm1;rw[hf2] at h1 hu hSE;exact TrOK.step (δ:=δ) (S:=S) (go:=true) ho hq h6 h7 (by simpa using h4.1) (fun _=>⟨h1.1,h1.2,hu⟩) (fun _=>hSE) (fun h=>by cases h) hg (fun pre e post he hb=>(Y3s h4.2 pre e post he hb).imp id (fun h=>h.2))
   ·rw[hu] at h2; cases h2
  simp only[aopsD,Y7j,Y7h,Y1s] at h;cases hgd:o.guard with
  | none =>
   rw[hgd] at h;exact run fr (fun _=>rfl) _ _ _ rfl rfl rfl h ⟨fun _=>rfl,fun j want e=>by rw[hgd] at e; cases e⟩
  | some jw =>
   obtain ⟨j',want⟩:=jw;rw[hgd] at h;simp only at h;cases hgs:Y8f all j' with
   | none=>rw[hgs] at h; cases h
   | some gs =>
    rw[hgs] at h;simp only at h;obtain ⟨hlt',h'⟩:=Y2j h;clear h;have hlt:gs < C.nt:=by simpa using hlt'
    have gd:∀ (go:Bool) (b:Bool),fget gs fr=.d .bool b->go=(b == want)->((o.guard=none->go=true)/\∀ j want,o.guard=some (j,want)->∃ gs,Y8f all j=some gs/\gs < C.nt/\((∃ b:Bool,fget gs fr=.d .bool b/\go=(b == want)) \/ (fget gs fr=.tu .nil/\go=false))):=by
     intro go b e1 e2;refine ⟨fun e=>(by rw[hgd] at e; cases e),fun j w2 e=>?_⟩;rw[hgd] at e;cases e;exact ⟨gs,hgs,hlt,.inl ⟨b,e1,e2⟩⟩
    cases hq:fget gs fr with
    | d ty b =>
     cases ty with
     | bool =>
      rw[hq] at h'
      have hset:∀ t,fget t ((gs,.d .bool b) :: fr)=fget t fr:=by
       intro t;rw[Y6i];split
       ·rename_i e; subst e; exact hq.symm
       ·rfl
      cases b with
      | true =>
       simp only[cond_true] at h';cases want with
       | true=>exact run _ hset _ _ _ rfl rfl rfl h' (gd true true hq rfl)
       | false=>exact skp _ hset h' (gd false true hq rfl)
      | false =>
       simp only[cond_false] at h';cases want with
       | true=>exact skp _ hset h' (gd false false hq rfl)
       | false=>exact run _ hset _ _ _ rfl rfl rfl h' (gd true false hq rfl)
     | _=>rw[hq] at h'; cases h'
    | tu vs =>
     cases vs with
     | nil =>
      rw[hq] at h';refine skp fr (fun _=>rfl) h' ⟨fun e=>(by rw[hgd] at e; cases e),fun j w2 e=>?_⟩;rw[hgd] at e;cases e;exact ⟨gs,hgs,hlt,.inr ⟨hq,rfl⟩⟩
     | _=>rw[hq] at h'; cases h'
    | _=>rw[hq] at h'; cases h'
end
theorem Yjq (m i:Nat):tbit m i=m.testBit i:=by
 unfold tbit;rw[Nat.testBit_eq_decide_div_mod_eq];show Nat.beq ((m >>> i) &&& 1) 1=_;rw[Nat.and_one_is_mod,Nat.shiftRight_eq_div_pow];cases h:Nat.beq (m / 2 ^ i % 2) 1 with
 | true=>simp[eb9 h]
 | false =>
  have:m / 2 ^ i % 2 ≠ 1:=fun e=>by rw[e] at h; cases h
  simp[this]
theorem Y2l (e:Edge):Region.binds .any e=Y2k e:=by
 unfold Region.binds Y2k;cases e.ground <;> rfl
theorem Y5s {ms:List Nat} {j:Nat}:∀ {l:List Edge},tbit (Y5r ms l) j=true->∃ e ∈ l,Y2k e=true/\(e.on=j \/ tbit (getAt 0 ms e.on) j=true)
 | [],h=>by rw[Yjq] at h; simp[Y5r] at h
 | e :: l,h=>by
  simp only[Y5r] at h;cases hb:Y2k e with
  | false =>
   rw[hb,cond_false] at h;obtain ⟨e',h1,h2⟩:=Y5s h;exact ⟨e',List.mem_cons_of_mem _ h1,h2⟩
  | true =>
   rw[hb,cond_true,Yjq] at h;have h:((1 <<< e.on ||| getAt 0 ms e.on) ||| Y5r ms l).testBit j=true:=h;rw[Nat.testBit_or,Nat.testBit_or,Bool.or_eq_true,Bool.or_eq_true] at h;rcases h with (h | h) | h
   ·refine ⟨e,List.mem_cons_self ..,hb,.inl ?_⟩;simp[Nat.testBit_shiftLeft] at h
    have h2:j - e.on=0:=by
     by_cases hz:j - e.on=0
     ·exact hz
     ·have:=h.2;rw[Nat.testBit_eq_decide_div_mod_eq] at this;have h3:1 / 2 ^ (j - e.on)=0:=Nat.div_eq_of_lt (Nat.one_lt_two_pow hz);rw[h3] at this; simp at this
    omega
   ·exact ⟨e,List.mem_cons_self ..,hb,.inr (by rw[Yjq]; exact h)⟩
   ·rw[<- Yjq] at h;obtain ⟨e',h1,h2⟩:=Y5s h;exact ⟨e',List.mem_cons_of_mem _ h1,h2⟩
def Ahead (ms:List Nat) (i j:Nat):Prop:=(tbit (getAt 0 ms i) j=true/\j < i) \/ (tbit (getAt 0 ms j) i=true/\i < j) \/ j=i
structure SdF (all:Array Oper) (ms:List Nat) (i:Nat) (o:Oper):Prop where
 mask:getAt 0 ms i=Y5r ms o.after.toList
 edge:∀ e ∈ o.after.toList,Y2k e=true->e.on < i
 look:∀ t ∈ tmpsOf (opTs o.op),∀ j o',all.toList[j]?=some o'->o'.dst=some t->Ahead ms i j
 guard:∀ j want gs,o.guard=some (j,want)->Y8f all j=some gs->∀ j' o',all.toList[j']?=some o'->o'.dst=some gs->Ahead ms i j'
 new:∀ d,o.dst=some d->∀ j o',j < i->all.toList[j]?=some o'->o'.dst ≠ some d
theorem Yam {ms:List Nat} {i t:Nat}:∀ {l:List Oper} {j0:Nat},Yal ms i (getAt 0 ms i) t l j0=true->∀ j o',l[j]?=some o'->o'.dst=some t->Ahead ms i (j0+j)
 | [],_,_,j,o',h,_=>by simp at h
 | o :: l,j0,h,j,o',hj,hd=>by
  have h:((bif dstIs t o.dst then (tbit (getAt 0 ms i) j0 && Nat.blt j0 i) || ((tbit (getAt 0 ms j0) i && Nat.blt i j0) || Nat.beq j0 i) else true) && Yal ms i (getAt 0 ms i) t l (j0+1))=true:=h;rw[ba9] at h;cases j with
  | zero =>
   obtain rfl:o=o':=by simpa using hj
   have h1:=h.1;have h2:dstIs t o.dst=true:=by rw[hd]; exact Nat.beq_refl t
   rw[h2,cond_true,Bool.or_eq_true,Bool.or_eq_true,ba9,ba9] at h1;rcases h1 with ⟨h1,h3⟩ | ⟨h1,h3⟩ | h1
   ·exact .inl ⟨h1,by simpa using h3⟩
   ·exact .inr (.inl ⟨h1,by simpa using h3⟩)
   ·exact .inr (.inr (eb9 h1))
  | succ j =>
   have:=Yam h.2 j o' (by simpa using hj) hd;rw[show j0+(j+1)=j0+1+j by omega]; exact this
theorem Yak {ms:List Nat} {all:List Oper} {i:Nat}:∀ {l:List Nat},Yaj ms all i (getAt 0 ms i) l=true->∀ t ∈ l,∀ j o',all[j]?=some o'->o'.dst=some t->Ahead ms i j
 | [],_,t,ht=>by cases ht
 | s :: l,h,t,ht=>by
  have h:(Yal ms i (getAt 0 ms i) s all 0 && Yaj ms all i (getAt 0 ms i) l)=true:=h;rw[ba9] at h;rcases List.mem_cons.1 ht with rfl | ht
  ·intro j o' h1 h2;have:=Yam h.1 j o' h1 h2;rw[Nat.zero_add] at this; exact this
  ·exact Yak h.2 t ht
theorem Y5v {i:Nat}:∀ {l:List Edge},Y5u i l=true->∀ e ∈ l,Y2k e=true->e.on < i
 | [],_,e,he,_=>by cases he
 | a :: l,h,e,he,hb=>by
  have h:((bif Y2k a then Nat.blt a.on i else true) && Y5u i l)=true:=h;rw[ba9] at h;rcases List.mem_cons.1 he with rfl | he
  ·have h1:=h.1;rw[hb,cond_true] at h1;simpa using h1
  ·exact Y5v h.2 e he hb
theorem Y5o {d:Nat}:∀ {l:List Oper} {i:Nat},dstNew d l i=true->∀ j o',j < i->l[j]?=some o'->o'.dst ≠ some d
 | [],i,_,j,o',_,h=>by simp at h
 | o :: l,0,_,j,o',hj,_=>by omega
 | o :: l,i+1,h,j,o',hj,ho=>by
  have h:(!dstIs d o.dst && dstNew d l i)=true:=h;rw[ba9] at h;cases j with
  | zero =>
   obtain rfl:o=o':=by simpa using ho
   intro e;have h1:=h.1;rw[e] at h1;simp[dstIs] at h1
  | succ j=>exact Y5o h.2 j o' (by omega) (by simpa using ho)
theorem Yha {all:Array Oper} {ms:List Nat}:∀ (l:List Oper) (i:Nat),l=all.toList.drop i->sdOK all ms l i=true->∀ j o,i <= j->all.toList[j]?=some o->SdF all ms j o
 | [],i,hl,_,j,o,hj,ho=>by
  have h1:=congrArg List.length hl;have h2:=(List.getElem?_eq_some_iff.1 ho).1;simp at h1 h2; omega
 | a :: l,i,hl,h,j,o,hj,ho=>by
  have ha:all.toList[i]?=some a:=by
   have:=congrArg (fun x=>x[0]?) hl;simp at this;simpa using this.symm
  have hl2:l=all.toList.drop (i+1):=by
   have:=congrArg List.tail hl;simpa using this
  have h:(Nat.beq (getAt 0 ms i) (Y5r ms a.after.toList) && (Y5u i a.after.toList && (Yaj ms all.toList i (getAt 0 ms i) (tmpsOf (opTs a.op)) && (Y8e ms all i (getAt 0 ms i) a.guard &&
   ((match a.dst with | some d=>dstNew d all.toList i | none=>true) && sdOK all ms l (i+1))))))=true:=h
  simp only[ba9] at h;obtain ⟨q1,q2,q3,q4,q5,q6⟩:=h;rcases Nat.eq_or_lt_of_le hj with rfl | hj
  ·rw[ha] at ho;obtain rfl:=oi9 ho;refine ⟨eb9 q1,Y5v q2,Yak q3,fun j want gs e1 e2 j' o' h1 h2=>?_,fun d hd=>?_⟩
   ·rw[e1] at q4;simp only[Y8e,e2] at q4;have:=Yam q4 j' o' h1 h2;rw[Nat.zero_add] at this; exact this
   ·rw[hd] at q5;exact Y5o q5
  ·exact Yha l (i+1) hl2 q6 j o hj ho
end Go.Proofs.YtifbgkikkiallaaGreat.VX

