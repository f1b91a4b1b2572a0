import Derived.Test.YtifbgkikkiallaaGreatEdgesRunE9
import Derived.OrdersIn
set_option linter.unusedVariables false
set_option linter.unusedSimpArgs false
namespace Go.Proofs.YtifbgkikkiallaaGreat.VX
def memL (T:Tr) (L:Nat->Bool):Nat->Mem
 | 0=>T.M 0
 | k+1=>bif L k then T.δ k++memL T L k else memL T L k
theorem Yfy (S:List Nat):∀ (a b:Mem),restr S (a++b)=restr S a++restr S b
 | [],b=>rfl
 | (n,B) :: a,b=>by
  have ih:=Yfy S a b;show (bif memN n S then (n,B) :: restr S (a++b) else restr S (a++b))=(bif memN n S then (n,B) :: restr S a else restr S a)++restr S b;rw[ih]; cases memN n S <;> rfl
theorem Yfz {S:List Nat}:∀ {a:Mem},disj (keys a) S=true->restr S a=[]
 | [],_=>rfl
 | (n,B) :: a,h=>by
  have h:(!memN n S && disj (keys a) S)=true:=h;rw[ba9] at h;have h1:memN n S=false:=by simpa using h.1
  show (bif memN n S then (n,B) :: restr S a else restr S a)=[]
  rw[h1]; exact Yfz h.2
theorem Ybr (τ:Nat):∀ (a b:Mem),mget τ (a++b)=bif memN τ (keys a) then mget τ a else mget τ b
 | [],b=>rfl
 | (n,B) :: a,b=>by
  have ih:=Ybr τ a b;show mget τ ((n,B) :: (a++b))=bif (Nat.beq n τ || memN τ (keys a)) then mget τ ((n,B) :: a) else mget τ b;rw[Ybs,Ybs,ih];by_cases e:n=τ
  ·subst e; simp
  ·have:Nat.beq n τ=false:=by
    cases hb:Nat.beq n τ with
    | false=>rfl
    | true=>exact absurd (eb9 hb) e
   rw[if_neg e,this];cases memN τ (keys a) <;> simp[e]
theorem Y5c {a b:List Nat} {τ:Nat} (h:disj a b=true) (h1:memN τ a=true):memN τ b=false:=by
 induction a with
 | nil=>cases h1
 | cons x a ih =>
  have h:(!memN x b && disj a b)=true:=h;rw[ba9] at h;have h1:(Nat.beq x τ || memN τ a)=true:=h1;rw[Bool.or_eq_true] at h1;rcases h1 with h1 | h1
  ·have:=eb9 h1;subst this;simpa using h.1
  ·exact ih h.2 h1
section
variable {C:Ctx} {all:Array Oper} {ms:List Nat} {T:Tr} {L:Nat->Bool}
structure TF (C:Ctx) (all:Array Oper) (ms:List Nat) (T:Tr):Prop where
 st:∀ j o,all.toList[j]?=some o->TrS C all T j o
 sd:∀ j o,all.toList[j]?=some o->SdF all ms j o
 cl:∀ j j',j' < j->j < all.size->tbit (getAt 0 ms j) j'=false->farW (T.S j) (keys (T.δ j)) (T.S j') (keys (T.δ j')) \/ (T.δ j'=[]/\exOK all j' j=true/\∀ p,j' < p->p < j->T.δ p=[])
def Cl (all:Array Oper) (ms:List Nat) (L:Nat->Bool):Prop:=∀ i,L i=true->i < all.size->∀ j,tbit (getAt 0 ms i) j=true->L j=true
theorem op_at {i:Nat} (h:i < all.size):∃ o,all.toList[i]?=some o:=⟨all.toList[i]'(by simpa using h),List.getElem?_eq_getElem _⟩
theorem TF.mono (hT:TF C all ms T):∀ (j i:Nat),i <= j->j <= all.size->T.N i <= T.N j
 | 0,i,h,_=>by obtain rfl:i=0:=by omega
               exact Nat.le_refl _
 | j+1,i,h,hn=>by
  rcases Nat.eq_or_lt_of_le h with rfl | h
  ·exact Nat.le_refl _
  ·obtain ⟨o,ho⟩:=op_at (all:=all) (i:=j) (by omega);exact Nat.le_trans (hT.mono j i (by omega) (by omega)) (hT.st j o ho).le
theorem Y9s {m:Mem} (h:keys m=[]):m=[]:=by
 cases m with
 | nil=>rfl
 | cons a m=>cases h
theorem TF.restr (hT:TF C all ms T) (hc:Cl all ms L) {i:Nat} (hi:i < all.size) (hl:L i=false) (hr:∀ j,tbit (getAt 0 ms i) j=true->L j=true):∀ k,k <= all.size->restr (T.S i) (memL T L k)=restr (T.S i) (T.M (min k i)) \/
  ∃ j,i < j/\j < k/\exOK all i j=true/\T.δ i=[]/\(∀ p,i < p->p < j->T.δ p=[])/\restr (T.S i) (memL T L k)=restr (T.S i) (T.δ j)++restr (T.S i) (T.M i)
 | 0,_=>.inl (by rw[Nat.zero_min]; rfl)
 | k+1,hk=>by
  have ih:=hT.restr hc hi hl hr k (by omega);obtain ⟨o,ho⟩:=op_at (all:=all) (i:=k) (by omega);show VX.restr (T.S i) (bif L k then T.δ k++memL T L k else memL T L k)=_ \/ _;by_cases hki:k < i
  ·have ih:VX.restr (T.S i) (memL T L k)=VX.restr (T.S i) (T.M (min k i)):=by
    rcases ih with ih | ⟨j,h1,h2,_⟩
    ·exact ih
    ·omega
   left;rw[show min (k+1) i=k+1 by omega,(hT.st k o ho).mem,Yfy];rw[show min k i=k by omega] at ih;cases hb:L k with
   | true=>rw[cond_true,Yfy,ih]
   | false =>
    rw[cond_false,ih]
    have hbit:tbit (getAt 0 ms i) k=false:=by
     cases h:tbit (getAt 0 ms i) k with
     | false=>rfl
     | true=>rw[hr k h] at hb; cases hb
    rcases hT.cl i k hki hi hbit with h1 | ⟨h1,_⟩
    ·rw[Yfz h1.2.1]; rfl
    ·rw[h1]; rfl
  ·cases hb:L k with
   | false =>
    rw[cond_false];rcases ih with ih | ⟨j,h1,h2,h3⟩
    ·left; rw[ih,show min (k+1) i=i by omega,show min k i=i by omega]
    ·right;refine ⟨j,h1,by omega,?_⟩;show exOK all i j=true/\_/\_/\VX.restr (T.S i) (bif L k then T.δ k++memL T L k else memL T L k)=_;rw[hb,cond_false];exact h3
   | true =>
    have hne:k ≠ i:=fun e=>by rw[e,hl] at hb; cases hb
    have hbit:tbit (getAt 0 ms k) i=false:=by
     cases h:tbit (getAt 0 ms k) i with
     | false=>rfl
     | true=>have:=hc k hb (by omega) i h; rw[hl] at this; cases this
    rw[cond_true,Yfy];rcases hT.cl k i (by omega) (by omega) hbit with h1 | ⟨h1,h2,h3⟩
    ·rw[Yfz h1.1,List.nil_append];rcases ih with ih | ⟨j,g1,g2,g3⟩
     ·left; rw[ih,show min (k+1) i=i by omega,show min k i=i by omega]
     ·right;refine ⟨j,g1,by omega,?_⟩;show exOK all i j=true/\_/\_/\VX.restr (T.S i) (bif L k then T.δ k++memL T L k else memL T L k)=_;rw[hb,cond_true,Yfy,Yfz h1.1,List.nil_append];exact g3
    ·right;refine ⟨k,by omega,by omega,h2,h1,h3,?_⟩;show VX.restr (T.S i) (bif L k then T.δ k++memL T L k else memL T L k)=_;rw[hb,cond_true,Yfy];congr 1;rcases ih with ih | ⟨j,g1,g2,g3,g4,g5,g6⟩
     ·rw[ih,show min k i=i by omega]
     ·rw[g6,h3 j g1 g2]; rfl
theorem TF.mget_add (hT:TF C all ms T) (hc:Cl all ms L) {i:Nat} (hi:i < all.size) (hl:L i=false) (τ:Nat):∀ k,i < k->k <= all.size ->
  mget τ (memL T (upd L i true) k)=bif memN τ (keys (T.δ i)) then mget τ (T.δ i) else mget τ (memL T L k)
 | 0,h,_=>by omega
 | k+1,h,hk=>by
  by_cases e:k=i
  ·subst e
   have same:∀ j,j <= k->memL T (upd L k true) j=memL T L j:=by
    intro j;induction j with
    | zero=>intro _; rfl
    | succ j ih =>
     intro hj;show (bif upd L k true j then T.δ j++memL T (upd L k true) j else memL T (upd L k true) j)=(bif L j then T.δ j++memL T L j else memL T L j)
     rw[upd_ne L k true (show j ≠ k by omega),ih (by omega)]
   show mget τ (bif upd L k true k then T.δ k++memL T (upd L k true) k else memL T (upd L k true) k)=bif memN τ (keys (T.δ k)) then mget τ (T.δ k) else mget τ (bif L k then T.δ k++memL T L k else memL T L k);rw[Yk7,hl,same k (Nat.le_refl k),cond_true,cond_false,Ybr]
  ·have ih:=hT.mget_add hc hi hl τ k (by omega) (by omega);show mget τ (bif upd L i true k then T.δ k++memL T (upd L i true) k else memL T (upd L i true) k)=bif memN τ (keys (T.δ i)) then mget τ (T.δ i) else mget τ (bif L k then T.δ k++memL T L k else memL T L k);rw[upd_ne L i true e];cases hb:L k with
   | false=>simp only[cond_false]; exact ih
   | true =>
    simp only[cond_true];rw[Ybr,Ybr,ih]
    have hbit:tbit (getAt 0 ms k) i=false:=by
     cases h:tbit (getAt 0 ms k) i with
     | false=>rfl
     | true=>have:=hc k hb (by omega) i h; rw[hl] at this; cases this
    cases h1:memN τ (keys (T.δ k)) with
    | false=>simp only[cond_false]
    | true =>
     rcases hT.cl k i (by omega) (by omega) hbit with h2 | ⟨h2,_⟩
     ·rw[Y5c h2.2.2 h1]; rfl
     ·rw[h2]; rfl
theorem TF.frame (hT:TF C all ms T) (t:Nat):∀ i,i <= all.size->(∃ j o,j < i/\all.toList[j]?=some o/\o.dst=some t/\fget t (T.F i)=T.v j) \/
  ((∀ j o,j < i->all.toList[j]?=some o->o.dst ≠ some t)/\fget t (T.F i)=fget t (T.F 0))
 | 0,_=>.inr ⟨fun j o h=>by omega,rfl⟩
 | i+1,hi=>by
  obtain ⟨o,ho⟩:=op_at (all:=all) (i:=i) (by omega);have h1:=(hT.st i o ho).fr t;by_cases e:o.dst=some t
  ·rw[if_pos e] at h1;exact .inl ⟨i,o,by omega,ho,e,h1⟩
  ·rw[if_neg e] at h1;rcases hT.frame t i (by omega) with ⟨j,o',q1,q2,q3,q4⟩ | ⟨q1,q2⟩
   ·exact .inl ⟨j,o',by omega,q2,q3,h1.trans q4⟩
   ·refine .inr ⟨fun j o' hj ho'=>?_,h1.trans q2⟩;rcases Nat.eq_or_lt_of_le (Nat.le_of_lt_succ hj) with rfl | hj
    ·rw[ho] at ho';obtain rfl:=oi9 ho';exact e
    ·exact q1 j o' hj ho'
structure J (C:Ctx) (ds:List Deferred) (X:Nat->Prop) (all:Array Oper) (T:Tr) (L:Nat->Bool) (g0:G) (m0:Mem) (w0:World) (g:G) (a:Act) (w:World):Prop where
 n:g.n=T.N all.size
 inv:Inv g X (memL T L all.size) w
 dom:∀ τ,g.dom τ->τ < T.N 0 \/ ∃ j,L j=true/\j < all.size/\T.N j <= τ/\τ < T.N (j+1)
 val:∀ j o,all.toList[j]?=some o->L j=true->∀ d,o.dst=some d->RV g w (okB X g (memL T L all.size)) (T.v j) (a.tmps.getD d undef)
 base:∀ t,(∀ j o,all.toList[j]?=some o->L j=true->o.dst ≠ some t)->RV g w (okB X g (memL T L all.size)) (fget t (T.F 0)) (a.tmps.getD t undef)
 size:a.tmps.size=C.nt
 defers:a.defers=ds
 ext:Ext g0 m0 w0 g (memL T L all.size) w
theorem Yf3 (a:Act) (o:Option Tmp) (cv:Value) (t:Nat):(a.put o cv).tmps.getD t undef=if o=some t/\t < a.tmps.size then cv else a.tmps.getD t undef:=by
 cases o with
 | none=>simp[Act.put]
 | some d =>
  simp only[Act.put,Option.some.injEq];by_cases e:d=t
  ·subst e;by_cases h:d < a.tmps.size
   ·simp[Array.getD,h]
   ·simp[Array.getD,h]
  ·rw[if_neg (by simp[e])];simp only[Array.getD_eq_getD_getElem?,Array.getElem?_setIfInBounds_ne e]
variable {P:Program} {ds:List Deferred} {X:Nat->Prop} {g0 g:G} {m0:Mem} {w0 w:World} {a:Act}
theorem J.slot (hT:TF C all ms T) (hc:Cl all ms L) (hJ:J C ds X all T L g0 m0 w0 g a w) {i:Nat} (hi:i < all.size) (hli:L i=false) (hr:∀ j,tbit (getAt 0 ms i) j=true->L j=true) {t:Nat}
  (hl:∀ j o',all.toList[j]?=some o'->o'.dst=some t->Ahead ms i j):RV g w (okB X g (memL T L all.size)) (fget t (T.F i)) (a.tmps.getD t undef):=by
 rcases hT.frame t i (by omega) with ⟨j,o,q1,q2,q3,q4⟩ | ⟨q1,q2⟩
 ·rw[q4];rcases hl j o q2 q3 with ⟨h1,_⟩ | ⟨_,h1⟩ | h1
  ·exact hJ.val j o q2 (hr j h1) t q3
  ·omega
  ·omega
 ·rw[q2];refine hJ.base t (fun j o h1 h2 h3=>?_);rcases hl j o h1 h3 with ⟨_,h4⟩ | ⟨h4,_⟩ | h4
  ·exact q1 j o h4 h1 h3
  ·have hj:j < all.size:=by
    have:=(List.getElem?_eq_some_iff.1 h1).1;simpa using this
   have:=hc j h2 hj i h4;rw[hli] at this; cases this
  ·rw[h4,hli] at h2; cases h2
theorem rfr_ok {ok:Nat->Prop} {f:Fr} {tmps:Array Value} {n:Nat}:∀ (l:List Nat),ltAll n (frToks (rfr f l))=true->(∀ t ∈ l,RV g w ok (fget t f) (tmps.getD t undef))->FrOK (g.cut n) w ok (rfr f l) tmps
 | [],_,_=>fun t=>Yr _ _ _ _
 | s :: l,hn,h=>by
  intro t;show RV (g.cut n) w ok (fget t ((s,fget s f) :: rfr f l)) _;have hn:ltAll n ((fget s f).toksA++frToks (rfr f l))=true:=hn;rw[Y6i];split
  ·rename_i e; subst e; exact RV_cut (Yaz hn).1 (h s (List.mem_cons_self ..))
  ·exact rfr_ok l (Yaz hn).2 (fun t ht=>h t (List.mem_cons_of_mem _ ht)) t
def stepG (T:Tr) (i:Nat) (g g1:G):G:={ loc:=fun τ=>if T.N i <= τ/\τ < T.N (i+1) then g1.loc τ else g.loc τ,n:=g.n,dom:=fun τ=>g.dom τ \/ (T.N i <= τ/\τ < T.N (i+1)/\g1.dom τ),rt:=g.rt,sub:=fun τ=>if memN τ (keys (T.δ i))=true \/ memN τ (T.S i)=true then g1.sub τ else g.sub τ }
theorem Ydl:∀ {l:List Oper} {n:Nat},opAt l n=l[n]?
 | [],n=>by cases n <;> rfl
 | o :: l,0=>rfl
 | o :: l,n+1=>by
  show opAt l n=_;rw[Ydl]; simp
theorem Y5m {t:Nat}:∀ {l:List Oper} {p i j:Nat},Y5l t l p i j=true->∀ n o,l[n]?=some o->i <= p+n->p+n < j->o.dst ≠ some t
 | [],_,_,_,_,n,o,h,_,_=>by simp at h
 | a :: l,p,i,j,h,n,o,ho,h1,h2=>by
  have h:((bif Nat.ble i p && Nat.blt p j then !dstIs t a.dst else true) && Y5l t l (p+1) i j)=true:=h;rw[ba9] at h;cases n with
  | zero =>
   obtain rfl:a=o:=by simpa using ho
   have h3:=h.1;rw[show (Nat.ble i p && Nat.blt p j)=true by simp; omega,cond_true] at h3;intro e;rw[e] at h3;simp[dstIs] at h3
  | succ n=>exact Y5m h.2 n o (by simpa using ho) (by omega) (by omega)
theorem Y55 {τ:Nat} {m:Mem} {B:Blk} {kt vt kt' vt':Ty} {l:List (kt.T × vt.T)} {l':List (kt'.T × vt'.T)} (hm:mget τ m=.mp kt vt l) (hB:B=.mp kt' vt' l'):∀ (v:AV) (t:Ty),AV.data ((τ,B) :: m) v t=AV.data m v t
 | .sl σ,t=>by
  cases t with
  | slice a =>
   show (match mget σ ((τ,B) :: m) with | .frz t' xs=>Ty.conv (.slice t') (.slice a) xs | _=>none)=(match mget σ m with | .frz t' xs=>Ty.conv (.slice t') (.slice a) xs | _=>none)
   rw[Ybs];by_cases e:τ=σ
   ·subst e; rw[if_pos rfl,hm,hB]
   ·rw[if_neg e]
  | _=>rfl
 | .vw σ lo n sz,t=>by
  cases t with
  | slice a =>
   show (match mget σ ((τ,B) :: m) with | .frz t' xs=>(bif Nat.beq sz t'.size then Ty.conv (.slice t') (.slice a) (cut xs lo n) else none) | _=>none)=(match mget σ m with | .frz t' xs=>(bif Nat.beq sz t'.size then Ty.conv (.slice t') (.slice a) (cut xs lo n) else none) | _=>none)
   rw[Ybs];by_cases e:τ=σ
   ·subst e; rw[if_pos rfl,hm,hB]
   ·rw[if_neg e]
  | _=>rfl
 | .pr u v,t=>by
  cases t with
  | pair a b =>
   show (match AV.data ((τ,B) :: m) u a,AV.data ((τ,B) :: m) v b with | some x,some y=>some (x,y) | _,_=>none)=(match AV.data m u a,AV.data m v b with | some x,some y=>some (x,y) | _,_=>none)
   rw[Y55 hm hB u,Y55 hm hB v]
  | _=>rfl
 | .one u,t=>by
  cases t with
  | one a =>
   show AV.data ((τ,B) :: m) u a=AV.data m u a;exact Y55 hm hB u a
  | _=>rfl
 | .d _ _,t=>by cases t <;> rfl
 | .nl,t=>by cases t <;> rfl
 | .ptr _ _,t=>by cases t <;> rfl
 | .va _ _ _ _,t=>by cases t <;> rfl
 | .nilp,t=>by cases t <;> rfl
 | .pv _ _,t=>by cases t <;> rfl
 | .mp _,t=>by cases t <;> rfl
 | .nilm,t=>by cases t <;> rfl
 | .fn _ _ _,t=>by cases t <;> rfl
 | .nilf,t=>by cases t <;> rfl
 | .ifc _ _,t=>by cases t <;> rfl
 | .yl _,t=>by cases t <;> rfl
 | .nili,t=>by cases t <;> rfl
 | .tu _,t=>by cases t <;> rfl
 | .nil,t=>by cases t <;> rfl
 | .cons _ _,t=>by cases t <;> rfl
 | .dead,t=>by cases t <;> rfl
theorem Yh9:∀ t:Ty,∃ h,Ty.same t t=some ⟨h⟩:=by
 intro t;induction t with
 | int k=>exact ⟨rfl,by simp[Ty.same,Nat.beq_refl]⟩
 | bool=>exact ⟨rfl,rfl⟩
 | str=>exact ⟨rfl,rfl⟩
 | pair a b ih1 ih2 =>
  obtain ⟨h1,e1⟩:=ih1;obtain ⟨h2,e2⟩:=ih2;exact ⟨rfl,by simp only[Ty.same,e1,e2]⟩
 | one a ih=>obtain ⟨h1,e1⟩:=ih; exact ⟨rfl,by simp only[Ty.same,e1]⟩
 | slice a ih=>obtain ⟨h1,e1⟩:=ih; exact ⟨rfl,by simp only[Ty.same,e1]⟩
 | arr n a ih=>obtain ⟨h1,e1⟩:=ih; exact ⟨rfl,by simp only[Ty.same,e1]; simp⟩
theorem Y4u (t:Ty) (x:t.T):Ty.conv t t x=some x:=by
 obtain ⟨h,e⟩:=Yh9 t;unfold Ty.conv;rw[e]; rfl
theorem Yc0 {κ α:Type} {eq:κ->κ->Bool} {z:α} {x:κ} (hx:eq x x=true) (v:α):∀ (l:List (κ × α)),mlook eq z x (mput eq x v l)=v
 | []=>by show (bif eq x x then v else z)=v; rw[hx]; rfl
 | p :: l=>by
  show mlook eq z x (bif eq x p.1 then (x,v) :: l else p :: mput eq x v l)=v;cases h:eq x p.1 with
  | true=>show (bif eq x x then v else _)=v; rw[hx]; rfl
  | false=>show (bif eq x p.1 then _ else mlook eq z x (mput eq x v l))=v; rw[h,cond_false]; exact Yc0 hx v l
theorem Ycc {m:Mem} {kt vt:Ty} {v:AV} {τ:Nat} {l:List (kt.T × vt.T)} (h:mpFor m kt vt v=some (τ,l)):v=.mp τ/\∃ k' v' l',mget τ m=.mp k' v' l':=by
 unfold mpFor at h;split at h
 ·rename_i σ;split at h
  ·rename_i k' v' l' hm;split at h
   ·cases h; exact ⟨rfl,k',v',l',hm⟩
   ·cases h
  ·cases h
 ·cases h
theorem TF.still (hT:TF C all ms T) {i:Nat}:∀ j,i <= j->j <= all.size->(∀ p,i <= p->p < j->T.δ p=[])->T.M j=T.M i
 | 0,h,_,_=>by obtain rfl:i=0:=by omega
               rfl
 | j+1,h,hn,hd=>by
  rcases Nat.eq_or_lt_of_le h with rfl | h
  ·rfl
  ·obtain ⟨o,ho⟩:=op_at (all:=all) (i:=j) (by omega);rw[(hT.st j o ho).mem,hd j (by omega) (by omega),hT.still j (by omega) (by omega) (fun p h1 h2=>hd p h1 (by omega))]; rfl
theorem TF.slotStill (hT:TF C all ms T) {i t:Nat}:∀ j,i <= j->j <= all.size->(∀ p o,i <= p->p < j->all.toList[p]?=some o->o.dst ≠ some t)->fget t (T.F j)=fget t (T.F i)
 | 0,h,_,_=>by obtain rfl:i=0:=by omega
               rfl
 | j+1,h,hn,hd=>by
  rcases Nat.eq_or_lt_of_le h with rfl | h
  ·rfl
  ·obtain ⟨o,ho⟩:=op_at (all:=all) (i:=j) (by omega);rw[(hT.st j o ho).fr t,if_neg (hd j o (by omega) (by omega) ho),hT.slotStill j (by omega) (by omega) (fun p o' h1 h2=>hd p o' h1 (by omega))]
theorem ex_run {P:Program} (hC:CtxOK P C) {t:TypeId} {x y:Operand} {f:Fr} {m1 δ:Mem} {N N1 N2 Nj:Nat} {v1 v2:AV}
  (h1:aop C (.lookup t x y false) 0 f m1 N (fun v m N=>some (v,m,N)) (fun _ _ _=>none)=some (v1,m1,N1))
  (h2:aop C (.mapEntry t x y) 0 f m1 Nj (fun v m N=>some (v,m,N)) (fun _ _ _=>none)=some (v2,δ++m1,N2)) :
  ∃ τ B,δ=[(τ,B)]/\B.toksA=[]/\mget τ m1 ≠ .gone/\∀ {R:Type} (k kp:AV->Mem->Nat->Option R),aop C (.lookup t x y false) 0 f ((τ,B) :: m1) N k kp=k v1 ((τ,B) :: m1) N1:=by
 simp only[aop] at h1 h2;cases hi:tget t C.tb with
 | none=>rw[hi] at h1; cases h1
 | some i =>
  rw[hi] at h1 h2;simp only at h1 h2;obtain ⟨q1,h2'⟩:=Y2j h2;have h1':=h1;rw[q1,cond_true] at h1';clear h1 h2;cases hk:(ev f y).data m1 i.kty with
  | none=>rw[hk] at h1'; cases h1'
  | some key =>
   rw[hk] at h1' h2';simp only at h1' h2';cases hm:mpFor m1 i.kty i.ety (ev f x) with
   | none=>rw[hm] at h2'; cases h2'
   | some τl =>
    obtain ⟨τ,l⟩:=τl;obtain ⟨hv,k',v',l',hg⟩:=Ycc hm;rw[hm] at h2';rw[hv] at h1' hm;simp only[hm,cond_false] at h1';simp only at h2';have e2:=oi9 h2';have e3:(τ,Blk.mp i.kty i.ety (mputK key (mlookK key l) l)) :: m1=δ++m1:=congrArg (fun p=>p.2.1) e2
    have e4:δ=[(τ,Blk.mp i.kty i.ety (mputK key (mlookK key l) l))]:=by
     have:[(τ,Blk.mp i.kty i.ety (mputK key (mlookK key l) l))]++m1=δ++m1:=e3;exact (List.append_cancel_right this).symm
    have e5:=oi9 h1';have e6:AV.d i.ety (mlookK key l)=v1:=congrArg (fun p=>p.1) e5;have e7:N=N1:=congrArg (fun p=>p.2.2) e5;refine ⟨τ,_,e4,rfl,by rw[hg]; simp,fun k kp=>?_⟩;have hq1:Nat.beq i.kind 6=true/\i.mky=true:=by rw[ba9] at q1; exact q1
    obtain ⟨kt,vt,_,hmk⟩:=(hC.tb t i hi).map (eb9 hq1.1);have hsl:=(hmk.1 hq1.2).1.sl;have hd:(ev f y).data ((τ,Blk.mp i.kty i.ety (mputK key (mlookK key l) l)) :: m1) i.kty=some key:=by rw[Y55 hg rfl]; exact hk
    have hf:mpFor ((τ,Blk.mp i.kty i.ety (mputK key (mlookK key l) l)) :: m1) i.kty i.ety (.mp τ)=some (τ,mputK key (mlookK key l) l):=by
     simp only[mpFor,Ybs,if_pos];rw[show Ty.conv (.slice (.pair i.kty i.ety)) (.slice (.pair i.kty i.ety)) (mputK key (mlookK key l) l)=some (mputK key (mlookK key l) l) from Y4u (.slice (.pair i.kty i.ety)) _]
    simp only[aop,hi,q1,cond_true,hd,hv,hf,cond_false];rw[<- e6,<- e7];have:mlookK key (mputK key (mlookK key l) l)=mlookK key l:=Yc0 (beq_refl _ _ hsl) _ _;rw[this]
theorem TF.runL {P:Program} (hT:TF C all ms T) (hC:CtxOK P C) (hc:Cl all ms L) {i:Nat} (hi:i < all.size) (hl:L i=false) (hr:∀ j,tbit (getAt 0 ms i) j=true->L j=true) {o:Oper} (ho:all.toList[i]?=some o) (hgo:T.go i=true) :
  ltAll (T.N i) (frToks (opF T i o))=true/\memLt (T.N i) (VX.restr (T.S i) (memL T L all.size))=true /\
  ∀ {R:Type} (k kp:AV->Mem->Nat->Option R),aop C o.op o.type (opF T i o) (VX.restr (T.S i) (memL T L all.size)) (T.N i) k kp=k (T.v i) (T.δ i++VX.restr (T.S i) (memL T L all.size)) (T.N (i+1)):=by
 have hS:=hT.st i o ho;obtain ⟨r1,r2,r3⟩:=hS.run hgo;rcases hT.restr hc hi hl hr all.size (Nat.le_refl _) with h | ⟨j,h1,h2,h3,h4,h5,h6⟩
 ·rw[show min all.size i=i by omega] at h;rw[h]; exact ⟨r1,r2,r3⟩
 ·obtain ⟨b,hb⟩:=op_at (all:=all) (i:=j) h2;have hSj:=hT.st j b hb;unfold exOK at h3;rw[Ydl,Ydl,ho,hb] at h3;simp only at h3;split at h3
  ·rename_i t x y ok t' x' y' ha hb';simp only[ba9] at h3;obtain ⟨g0,g1,g2,g3,g4,g5,g6,g7⟩:=h3;obtain rfl:ok=false:=by simpa using g0
   obtain rfl:=eb9 g1;obtain rfl:=eb9 g2;obtain rfl:=eb9 g3
   have hgj:T.go j=true:=hSj.guard.1 (by cases hq:b.guard with
    | none=>rfl
    | some z=>rw[hq] at g5; cases g5)
   obtain ⟨s1,s2,s3⟩:=hSj.run hgj
   have hM:T.M j=T.M i:=hT.still j (by omega) (by omega) (fun p q1 q2=>by
    rcases Nat.eq_or_lt_of_le q1 with rfl | q1
    ·exact h4
    ·exact h5 p q1 q2)
   have hF:opF T j b=opF T i o:=by
    have ht1:tmpsOf (opTs b.op)=[x,y]:=by rw[hb']; rfl
    have ht2:tmpsOf (opTs o.op)=[x,y]:=by rw[ha]; rfl
    unfold opF;rw[ht1,ht2];have c1:=hT.slotStill (i:=i) (t:=x) j (by omega) (by omega) (fun p o' q1 q2 q3=>Y5m g6 p o' q3 (by omega) (by omega));have c2:=hT.slotStill (i:=i) (t:=y) j (by omega) (by omega) (fun p o' q1 q2 q3=>Y5m g7 p o' q3 (by omega) (by omega));show [(x,fget x (T.F j)),(y,fget y (T.F j))]=[(x,fget x (T.F i)),(y,fget y (T.F i))]
    rw[c1,c2]
   have hSS:T.S j=T.S i:=by
    rw[hSj.sE hgj,hS.sE hgo,hF,hM,ha,hb']; rfl
   rw[hF,hSS,hM] at s3;generalize hm1:VX.restr (T.S i) (T.M i)=m1 at *;have e1:=r3 (fun v m N=>some (v,m,N)) (fun _ _ _=>none);have e2:=s3 (fun v m N=>some (v,m,N)) (fun _ _ _=>none);rw[h4,List.nil_append] at e1;rw[ha] at e1;rw[hb'] at e2;obtain ⟨τ,B,d1,d2,d3,d4⟩:=ex_run hC e1 e2
   have hmem:memN τ (T.S i)=true:=by
    rw[<- hm1] at d3;exact (Ybk d3).1
   have hrd:VX.restr (T.S i) (T.δ j)=[(τ,B)]:=by
    rw[d1];show (bif memN τ (T.S i) then (τ,B) :: VX.restr (T.S i) [] else VX.restr (T.S i) [])=_;rw[hmem]; rfl
   rw[h6,hrd];refine ⟨r1,?_,fun k kp=>?_⟩
   ·show (Nat.blt τ (T.N i) && (ltAll (T.N i) B.toksA && memLt (T.N i) m1))=true;rw[d2,r2];have:=(Ybj (τ:=τ) r2).2 d3;simp[ltAll,this]
   ·rw[ha,h4,List.nil_append];exact d4 k kp
  ·cases h3
theorem J.run {rd:Option Nat} (hT:TF C all ms T) (hC:CtxOK P C) (hrt0:g0.rt=rtOf P) (hc:Cl all ms L) (hJ:J C ds X all T L g0 m0 w0 g a w) (hg0:g0.n=T.N 0) {i:Nat} {o:Oper} (ho:all.toList[i]?=some o) (hl:L i=false) (hr:∀ j,tbit (getAt 0 ms i) j=true->L j=true)
  (hgo:T.go i=true) {K:Act->World->Prop} {Q:Exit->Act->World->Prop} (hK:∀ g' a' w',J C ds X all T (upd L i true) g0 m0 w0 g' a' w'->K a' w'):o.wpIn (FR rd) 0 P a w K Q:=by
 have hi:i < all.size:=by
  have:=(List.getElem?_eq_some_iff.1 ho).1;simpa using this
 have hS:=hT.st i o ho;obtain ⟨r1,r2,r3⟩:=hT.runL hC hc hi hl hr ho hgo;have hI:=hJ.inv;generalize hM:memL T L all.size=M at *;have hI1:=hI.cut r2
 have hf1:FrOK (g.cut (T.N i)) w (okB (restX X g M (T.S i)) (g.cut (T.N i)) (restr (T.S i) M)) (opF T i o) a.tmps:=by
  refine FrOK.mono (GExt.refl _) Y8m (rfr_ok _ r1 (fun t ht=>?_));have:=hJ.slot hT hc hi hl hr ((hT.sd i o ho).look t ht);rw[hM] at this;exact this
 have hop:=aop_ok (P:=P) (o:=o) (a:=a) (w:=w) (k:=fun v m N=>some (v,m,N)) (kp:=fun _ _ _=>none) (r:=(T.v i,T.δ i++restr (T.S i) M,T.N (i+1))) hC hI1 (show (g.cut (T.N i)).rt=rtOf P from hJ.ext.gx.1.2.trans hrt0) hf1 (by
  show aop C o.op o.type (opF T i o) (restr (T.S i) M) (T.N i) _ _=_;rw[r3])
 refine hop rd K Q ?_ (fun v m' g' cv w' e=>by cases e);intro v1 m' g1 cv w1 he hI2 hv2 hx2;have he':=oi9 he;have e1:v1=T.v i:=congrArg (fun p=>p.1) he';have e2:m'=T.δ i++restr (T.S i) M:=congrArg (fun p=>p.2.1) he';have hn1:g1.n=T.N (i+1):=congrArg (fun p=>p.2.2) he';clear he he';subst e1 e2;refine hK (stepG T i g g1) _ _ ?_;have hmono:=fun j i h h'=>hT.mono j i h h'
 have hN0:=hmono i 0 (by omega) (by omega);have hN1:=hmono all.size (i+1) (by omega) (by omega);have hgn:=hJ.n
 -- numbers of before do not stand in the window
 have hwin:∀ τ,g.dom τ->¬ (T.N i <= τ/\τ < T.N (i+1)):=by
  rintro τ hd ⟨h1,h2⟩;rcases hJ.dom τ hd with h3 | ⟨j,q1,q2,q3,q4⟩
  ·omega
  ·have hne:j ≠ i:=fun e=>by rw[e,hl] at q1; cases q1
   rcases Nat.lt_or_gt_of_ne hne with h | h
   ·have:=hmono i (j+1) (by omega) (by omega); omega
   ·have:=hmono j (i+1) (by omega) (by omega); omega
 have hloc:∀ τ,g.dom τ->(stepG T i g g1).loc τ=g.loc τ:=fun τ hd=>if_neg (hwin τ hd)
 have hgx:GExt g (stepG T i g g1):=⟨⟨Nat.le_refl _,rfl⟩,fun τ hd=>⟨.inl hd,hloc τ hd⟩⟩
 have hloc1:∀ τ,g1.dom τ->(stepG T i g g1).loc τ=g1.loc τ/\(stepG T i g g1).dom τ:=by
  intro τ hd;have hlt:=hI2.dlt τ hd;rw[hn1] at hlt;rcases hx2.nw τ hd with ⟨h1,h2⟩ | h1
  ·exact ⟨(hloc τ h1).trans (hx2.gx.2 τ ⟨h1,h2⟩).2.symm,.inl h1⟩
  ·have h1:T.N i <= τ:=h1;exact ⟨if_pos ⟨h1,hlt⟩,.inr ⟨h1,hlt,hd⟩⟩
 have hgx1:GExt g1 (stepG T i g g1):=⟨⟨by show g1.n <= g.n; omega,hx2.gx.1.2.symm⟩,fun τ hd=>⟨(hloc1 τ hd).2,(hloc1 τ hd).1⟩⟩
 -- what stands at a number
 have hmg:∀ τ,mget τ (memL T (upd L i true) all.size)=bif memN τ (keys (T.δ i)) then mget τ (T.δ i) else mget τ M:=fun τ=>by
  rw[hT.mget_add hc hi hl τ all.size hi (Nat.le_refl _),hM]
 generalize hM2:memL T (upd L i true) all.size=M2 at *
 have via:∀ τ,memN τ (keys (T.δ i))=true \/ memN τ (T.S i)=true->mget τ M2=mget τ (T.δ i++restr (T.S i) M):=by
  intro τ h;rw[hmg,Ybr,Ybt];cases hk:memN τ (keys (T.δ i)) with
  | true=>rfl
  | false =>
   rw[hk] at h;rw[h.resolve_left (by simp)]; rfl
 have off:∀ τ,memN τ (keys (T.δ i))=false->mget τ M2=mget τ M:=fun τ h=>by rw[hmg,h]; rfl
 have off1:∀ τ,memN τ (keys (T.δ i))=false->memN τ (T.S i)=false->mget τ (T.δ i++restr (T.S i) M)=.gone:=fun τ h h'=>by rw[Ybr,Ybt,h,h']; rfl
 generalize hm1:T.δ i++restr (T.S i) M=m1 at *
 -- numbers that are one's own,behind it
 have lv:∀ τ,Lv (stepG T i g g1) M2 τ->(Lv g1 m1 τ/\(stepG T i g g1).loc τ=g1.loc τ) \/ (Lv g M τ/\memN τ (T.S i)=false/\(stepG T i g g1).loc τ=g.loc τ):=by
  intro τ ⟨h1,h2⟩;by_cases hv:memN τ (keys (T.δ i))=true \/ memN τ (T.S i)=true
  ·rw[via τ hv] at h1;have h3:=(hloc1 τ (hI2.live_lt h1)).1;exact .inl ⟨⟨h1,by rw[<- h3]; exact h2⟩,h3⟩
  ·rw[not_or] at hv;have hv1:memN τ (keys (T.δ i))=false:=by simpa using hv.1
   have hv2:memN τ (T.S i)=false:=by simpa using hv.2
   rw[off τ hv1] at h1;have h3:=hloc τ (hI.live_lt h1);exact .inr ⟨⟨h1,by rw[<- h3]; exact h2⟩,hv2,h3⟩
 have sb:∀ τ c,Sb (stepG T i g g1) M2 τ c->(Sb g1 m1 τ c/\(stepG T i g g1).sub τ=g1.sub τ) \/ (Sb g M τ c/\memN τ (T.S i)=false/\(stepG T i g g1).sub τ=g.sub τ):=by
  intro τ c ⟨h1,h2⟩;by_cases hv:memN τ (keys (T.δ i))=true \/ memN τ (T.S i)=true
  ·rw[via τ hv] at h1;have h3:(stepG T i g g1).sub τ=g1.sub τ:=if_pos hv;exact .inl ⟨⟨h1,by rw[<- h3]; exact h2⟩,h3⟩
  ·have h3:(stepG T i g g1).sub τ=g.sub τ:=if_neg hv;rw[not_or] at hv;have hv1:memN τ (keys (T.δ i))=false:=by simpa using hv.1
   have hv2:memN τ (T.S i)=false:=by simpa using hv.2
   rw[off τ hv1] at h1;exact .inr ⟨⟨h1,by rw[<- h3]; exact h2⟩,hv2,h3⟩
 have ownF:∀ τ b,OwnT (stepG T i g g1) M2 τ b->OwnT g1 m1 τ b \/ (OwnT g M τ b/\memN τ (T.S i)=false):=by
  rintro τ b (⟨h1,h2⟩ | ⟨c,h1,h2⟩)
  ·rcases lv τ h1 with ⟨h3,h4⟩ | ⟨h3,h4,h5⟩
   ·exact .inl (.inl ⟨h3,by rw[<- h4]; exact h2⟩)
   ·exact .inr ⟨.inl ⟨h3,by rw[<- h5]; exact h2⟩,h4⟩
  ·rcases sb τ c h1 with ⟨h3,h4⟩ | ⟨h3,h4,h5⟩
   ·exact .inl (.inr ⟨c,h3,by rw[<- h4]; exact h2⟩)
   ·exact .inr ⟨.inr ⟨c,h3,by rw[<- h5]; exact h2⟩,h4⟩
 have ownE:∀ b,Own (stepG T i g g1) M2 b->Own g1 m1 b \/ (∃ τ,memN τ (T.S i)=false/\OwnT g M τ b):=by
  intro b hb;obtain ⟨τ,h1⟩:=Ye0.1 hb;exact (ownF τ b h1).imp (fun h=>h.own) (fun h=>⟨τ,h.2,h.1⟩)
 have ownM:∀ b,Own (stepG T i g g1) M2 b->Own g M b \/ w.heap.size <= b:=by
  intro b h;rcases ownE b h with h | ⟨τ,_,h1⟩
  ·exact (hx2.own b h).imp Yi id
  ·exact .inl h1.own
 have H1:Holds w1 (okB (restX X g M (T.S i)) g1 m1) w1 (okB X (stepG T i g g1) M2):=by
  intro b hb _;refine ⟨⟨fun h=>hb.1 (.inl h),fun h=>?_⟩,rfl⟩;rcases ownE b h with h | h
  ·exact hb.2 h
  ·exact hb.1 (.inr h)
 have keepM:∀ b,b < w.heap.size->¬ Own (g.cut (T.N i)) (restr (T.S i) M) b->w1.heap[b]?=w.heap[b]?:=hx2.keep
 have H2:Holds w (okB X g M) w1 (okB X (stepG T i g g1) M2):=by
  rintro b ⟨h1,h2⟩ ⟨_,_,_,h3⟩;have hlt:=Yb1 h3;refine ⟨⟨h1,fun h=>?_⟩,keepM b hlt (fun h=>h2 (Yi h))⟩;rcases ownM b h with h | h
  ·exact h2 h
  ·omega
 have hinv:Inv (stepG T i g g1) X M2 w1:=by
  refine ⟨fun τ=>?_,fun τ τ' k1 k2 k3=>?_,fun τ k1=>?_,fun b hb=>Nat.lt_of_lt_of_le (hI.xlt b hb) hx2.size,fun τ hd=>?_,fun τ hd=>?_,fun τ c k=>?_⟩
  ·by_cases hv:memN τ (keys (T.δ i))=true \/ memN τ (T.S i)=true
   ·rw[via τ hv];by_cases hd:g1.dom τ
    ·exact Y1 hgx1 H1 hd (fun _ _=>rfl) (fun c _=>⟨congrFun (show (stepG T i g g1).sub τ=g1.sub τ from if_pos hv) c,fun _=>rfl⟩) (hI2.ok τ)
    ·rw[hI2.fresh τ hd]; trivial
   ·have hsv:(stepG T i g g1).sub τ=g.sub τ:=if_neg hv;rw[not_or] at hv;have hv1:memN τ (keys (T.δ i))=false:=by simpa using hv.1
    have hv2:memN τ (T.S i)=false:=by simpa using hv.2
    rw[off τ hv1]
    have hkeep:∀ b,OwnT g M τ b->w1.heap[b]?=w.heap[b]?:=by
     intro b hb;refine keepM _ (hI.ownlt hb.own) (fun h=>?_);obtain ⟨τ',p1⟩:=Ye0.1 h;obtain ⟨p3,p4⟩:=Yf p1;have:=hI.uniq p4 hb;subst this;rw[p3] at hv2; cases hv2
    by_cases hd:g.dom τ
    ·exact Y1 hgx H2 hd (fun q1 q2=>hkeep _ (.inl ⟨⟨q1,q2⟩,rfl⟩)) (fun c q1=>⟨congrFun hsv c,fun q2=>hkeep _ (.inr ⟨c,⟨q1,q2⟩,rfl⟩)⟩) (hI.ok τ)
    ·rw[hI.fresh τ hd]; trivial
  ·rcases lv τ k1 with ⟨p1,p2⟩ | ⟨p1,p2,p3⟩
   ·rcases lv τ' k2 with ⟨q1,q2⟩ | ⟨q1,q2,q3⟩
    ·exact hI2.inj τ τ' p1 q1 (by rw[<- p2,<- q2]; exact k3)
    ·exact absurd (.inr ⟨τ',q2,.inl ⟨q1,by rw[<- q3,<- k3,p2]⟩⟩) (hI2.far τ p1)
   ·rcases lv τ' k2 with ⟨q1,q2⟩ | ⟨q1,q2,q3⟩
    ·exact absurd (.inr ⟨τ,p2,.inl ⟨p1,by rw[<- p3,k3,q2]⟩⟩) (hI2.far τ' q1)
    ·exact hI.inj τ τ' p1 q1 (by rw[<- p3,<- q3]; exact k3)
  ·rcases lv τ k1 with ⟨p1,p2⟩ | ⟨p1,p2,p3⟩
   ·rw[p2]; exact fun h=>hI2.far τ p1 (.inl h)
   ·rw[p3]; exact hI.far τ p1
  ·by_cases hv:memN τ (keys (T.δ i))=true \/ memN τ (T.S i)=true
   ·rw[via τ hv];exact hI2.fresh τ (fun h=>hd (hloc1 τ h).2)
   ·rw[not_or] at hv;rw[off τ (by simpa using hv.1)];exact hI.fresh τ (fun h=>hd (.inl h))
  ·rcases hd with hd | ⟨_,h2,_⟩
   ·exact hI.dlt τ hd
   ·show τ < g.n;omega
  ·rcases sb τ c k with ⟨p1,p2⟩ | ⟨p1,p2,p3⟩
   ·rw[p2];obtain ⟨q1,q2,q3,q4⟩:=hI2.sb τ c p1;refine ⟨q1,fun h=>q2 (.inl h),fun σ k' e=>?_,fun σ c' k' e=>?_⟩
    ·rcases lv σ k' with ⟨r1,r2⟩ | ⟨r1,r2,r3⟩
     ·exact q3 σ r1 (by rw[<- r2]; exact e)
     ·exact q2 (.inr ⟨σ,r2,.inl ⟨r1,by rw[<- r3]; exact e⟩⟩)
    ·rcases sb σ c' k' with ⟨r1,r2⟩ | ⟨r1,r2,r3⟩
     ·exact q4 σ c' r1 (by rw[<- r2]; exact e)
     ·exact absurd (.inr ⟨σ,r2,.inr ⟨c',r1,by rw[<- r3]; exact e⟩⟩) q2
   ·rw[p3];obtain ⟨q1,q2,q3,q4⟩:=hI.sb τ c p1;refine ⟨Nat.lt_of_lt_of_le q1 hx2.size,q2,fun σ k' e=>?_,fun σ c' k' e=>?_⟩
    ·rcases lv σ k' with ⟨r1,r2⟩ | ⟨r1,r2,r3⟩
     ·exact absurd (.inr ⟨τ,p2,.inr ⟨c,p1,by rw[<- e,r2]⟩⟩) (hI2.far σ r1)
     ·exact q3 σ r1 (by rw[<- r3]; exact e)
    ·rcases sb σ c' k' with ⟨r1,r2⟩ | ⟨r1,r2,r3⟩
     ·exact absurd (.inr ⟨τ,p2,.inr ⟨c,p1,by rw[<- e,r2]⟩⟩) (hI2.sb σ c' r1).2.1
     ·exact q4 σ c' r1 (by rw[<- r3]; exact e)
 subst hM2 hM;refine ⟨hgn,?_,fun τ hd=>?_,fun j o' hj hlj d hd=>?_,fun t ht=>?_,by rw[Yf6]; exact hJ.size,by rw[Yf1]; exact hJ.defers,?_⟩
 ·exact hinv
 ·rcases hd with hd | ⟨h1,h2,_⟩
  ·rcases hJ.dom τ hd with h3 | ⟨j,q1,q2⟩
   ·exact .inl h3
   ·have hne:j ≠ i:=fun e=>by rw[e,hl] at q1; cases q1
    exact .inr ⟨j,by rw[upd_ne L i true hne]; exact q1,q2⟩
  ·exact .inr ⟨i,Yk7 _ _ _,hi,h1,h2⟩
 ·rw[Yf3];by_cases hne:j=i
  ·subst hne;rw[ho] at hj;obtain rfl:=oi9 hj;rw[if_pos ⟨hd,by rw[hJ.size]; exact hS.dst d hd⟩];exact Yt hgx1 H1 hv2
  ·rw[upd_ne L i true hne] at hlj;rw[if_neg (fun h=>?_)]
   ·exact Yt hgx H2 (hJ.val j o' hj hlj d hd)
   ·rcases Nat.lt_or_gt_of_ne hne with h1 | h1
    ·exact (hT.sd i o ho).new d h.1 j o' h1 hj hd
    ·exact (hT.sd j o' hj).new d hd i o h1 ho h.1
 ·rw[Yf3,if_neg (fun h=>ht i o ho (Yk7 _ _ _) h.1)];refine Yt hgx H2 (hJ.base t (fun j o' h1 h2=>ht j o' h1 ?_));have hne:j ≠ i:=fun e=>by rw[e,hl] at h2; cases h2
  rw[upd_ne L i true hne]; exact h2
 ·have hx:=hJ.ext;refine ⟨hx.gx.trans hgx,fun τ hd=>?_,Nat.le_trans hx.size hx2.size,fun b hb hno=>?_,fun b hb=>?_,hx2.os.trans hx.os,hx2.tape.trans hx.tape,hx2.output.trans hx.output⟩
  ·rcases hd with hd | ⟨h1,_,_⟩
   ·exact hx.nw τ hd
   ·right; omega
  ·rw[keepM b (Nat.lt_of_lt_of_le hb hx.size) (fun h=>?_),hx.keep b hb hno];rcases hx.own b (Yi h) with h | h
   ·exact hno h
   ·omega
  ·rcases ownM b hb with h | h
   ·exact hx.own b h
   ·have:=hx.size; right; omega
theorem Ybi {i:Nat} (h:T.δ i=[]):∀ k,memL T (upd L i true) k=memL T L k
 | 0=>rfl
 | k+1=>by
  show (bif upd L i true k then T.δ k++memL T (upd L i true) k else memL T (upd L i true) k)=(bif L k then T.δ k++memL T L k else memL T L k)
  rw[Ybi h k];by_cases e:k=i
  ·subst e; rw[Yk7,h]; cases L k <;> rfl
  ·rw[upd_ne L i true e]
theorem Ybh (hT:TF C all ms T) (h:∀ j,j < all.size->L j=true):∀ k,k <= all.size->memL T L k=T.M k
 | 0,_=>rfl
 | k+1,hk=>by
  obtain ⟨o,ho⟩:=op_at (all:=all) (i:=k) (by omega);show (bif L k then T.δ k++memL T L k else memL T L k)=_;rw[h k (by omega),Ybh hT h k (by omega),(hT.st k o ho).mem]; rfl
theorem J.skip (hT:TF C all ms T) (hJ:J C ds X all T L g0 m0 w0 g a w) {i:Nat} {o:Oper} (ho:all.toList[i]?=some o) (hl:L i=false) (hgo:T.go i=false) :
  J C ds X all T (upd L i true) g0 m0 w0 g (a.put o.dst undef) w:=by
 have hi:i < all.size:=by
  have:=(List.getElem?_eq_some_iff.1 ho).1;simpa using this
 have hS:=hT.st i o ho;obtain ⟨s1,s2,s3⟩:=hS.skip hgo;have hM:=Ybi (T:=T) (L:=L) s2 all.size;refine ⟨hJ.n,by rw[hM]; exact hJ.inv,fun τ hd=>?_,fun j o' hj hlj d hd=>?_,fun t ht=>?_,by rw[Yf6]; exact hJ.size,by rw[Yf1]; exact hJ.defers,by rw[hM]; exact hJ.ext⟩
 ·rcases hJ.dom τ hd with h3 | ⟨j,q1,q2⟩
  ·exact .inl h3
  ·have hne:j ≠ i:=fun e=>by rw[e,hl] at q1; cases q1
   exact .inr ⟨j,by rw[upd_ne L i true hne]; exact q1,q2⟩
 ·rw[Yf3,hM];by_cases hne:j=i
  ·subst hne;rw[ho] at hj;obtain rfl:=oi9 hj;rw[if_pos ⟨hd,by rw[hJ.size]; exact hS.dst d hd⟩,s1];exact ⟨fun h=>(by cases h),fun _=>⟨[],rfl,rfl⟩⟩
  ·rw[upd_ne L i true hne] at hlj;rw[if_neg (fun h=>?_)]
   ·exact hJ.val j o' hj hlj d hd
   ·rcases Nat.lt_or_gt_of_ne hne with h1 | h1
    ·exact (hT.sd i o ho).new d h.1 j o' h1 hj hd
    ·exact (hT.sd j o' hj).new d hd i o h1 ho h.1
 ·rw[Yf3,if_neg (fun h=>ht i o ho (Yk7 _ _ _) h.1),hM];refine hJ.base t (fun j o' h1 h2=>ht j o' h1 ?_);have hne:j ≠ i:=fun e=>by rw[e,hl] at h2; cases h2
  rw[upd_ne L i true hne]; exact h2
def lst (listed:Array Bool) (j:Nat):Bool:=listed.getD j false
theorem Yay {listed:Array Bool} {i:Nat} (hi:i < listed.size):lst (listed.setIfInBounds i true)=upd (lst listed) i true:=by
 funext j;unfold lst upd;simp only[Array.getD_eq_getD_getElem?];split
 ·rename_i e; subst e; simp[Array.getElem?_setIfInBounds,hi]
 ·rename_i e; rw[Array.getElem?_setIfInBounds_ne (fun h=>e h.symm)]
def unl:List Bool->Nat
 | []=>0
 | b :: l=>(if b then 0 else 1)+unl l
theorem Yk3:∀ (l:List Bool) (i:Nat),l[i]?=some false->unl (l.set i true)+1=unl l
 | [],i,h=>by simp at h
 | b :: l,0,h=>by
  obtain rfl:b=false:=by simpa using h
  simp[unl]; omega
 | b :: l,i+1,h=>by
  have:=Yk3 l i (by simpa using h);simp only[List.set_cons_succ,unl]; omega
theorem Yk4:∀ (l:List Bool),unl l=0->∀ i:Nat,i < l.length->l[i]?=some true
 | [],_,i,h=>by simp at h
 | b :: l,h,0,_=>by
  cases b with
  | true=>rfl
  | false=>simp[unl] at h
 | b :: l,h,i+1,hi=>by
  have:=Yk4 l (by simp only[unl] at h; omega) i (by simpa using hi);simpa using this
theorem least {p:Nat->Bool}:∀ (n:Nat),p n=false->∃ i,i <= n/\p i=false/\∀ j,j < i->p j=true:=by
 intro n;induction n using Nat.strongRecOn with
 | _ n ih =>
  intro h;by_cases hx:∃ j,j < n/\p j=false
  ·obtain ⟨j,h1,h2⟩:=hx;obtain ⟨i,q1,q2⟩:=ih j h1 h2;exact ⟨i,by omega,q2⟩
  ·refine ⟨n,Nat.le_refl _,h,fun j hj=>?_⟩;cases hp:p j with
   | true=>rfl
   | false=>exact (hx ⟨j,hj,hp⟩).elim
theorem Yfi {listed:Array Bool} (hs:listed.size=all.size) {i:Nat} {o:Oper} (ho:all.toList[i]?=some o):i ∈ Region.ready .any all listed ↔ lst listed i=false/\∀ e ∈ o.after.toList,Y2k e=true->lst listed e.on=true:=by
 have hi:i < all.size:=by
  have:=(List.getElem?_eq_some_iff.1 ho).1;simpa using this
 have ho':all[i]?=some o:=by simpa using ho
 have hgt:listed.getD i true=lst listed i:=by
  unfold lst;simp[Array.getD,hs,hi]
 unfold Region.ready;rw[List.mem_filter,List.mem_range,ho',hgt];simp only[Option.map_some,Option.getD_some,ba9,Bool.not_eq_true',Array.all_eq_true',Bool.or_eq_true,Y2l];constructor
 ·rintro ⟨_,h1,h2⟩;refine ⟨h1,fun e he hb=>?_⟩;rcases h2 e (by simpa using he) with h3 | h3
  ·rw[hb] at h3; cases h3
  ·exact h3
 ·rintro ⟨h1,h2⟩;refine ⟨hi,h1,fun e he=>?_⟩;cases hb:Y2k e with
  | false=>exact .inl rfl
  | true=>exact .inr (h2 e (by simpa using he) hb)
theorem Ykg {fr:Fr} {ok:Nat->Prop} {o:Oper} {j:Nat} {want:Bool} {gs:Nat} (hgd:o.guard=some (j,want)) (hgs:Y8f all j=some gs) (hgn:gs < a.tmps.size) (hgv:RV g w ok (fget gs fr) (a.tmps.getD gs undef)) {go:Bool}
  (hg:(∃ b:Bool,fget gs fr=.d .bool b/\go=(b == want)) \/ (fget gs fr=.tu .nil/\go=false)):Region.wanted o (yielded all a.tmps)=go:=by
 have hy:yielded all a.tmps j=(match a.tmps.getD gs undef with | .bool b=>some b | _=>none):=by
  unfold Y8f at hgs;simp only[yielded,hgs,Option.bind_some];rw[Array.getElem?_eq_getElem hgn];have hgd2:a.tmps.getD gs undef=a.tmps[gs]:=by simp[Array.getD,hgn]
  rw[hgd2];generalize a.tmps[gs]=u;cases u <;> rfl
 rcases hg with ⟨b,h1,rfl⟩ | ⟨h1,rfl⟩
 ·rw[h1] at hgv;rw[Y2v hgv] at hy;cases b <;> cases want <;> simp[Region.wanted,hgd,hy]
 ·rw[h1] at hgv;obtain ⟨l',h2,h3⟩:=hgv.2 rfl;cases h2;have hu:a.tmps.getD gs undef=.tuple #[]:=(List.cons.inj h3).1;rw[hu] at hy;simp[Region.wanted,hgd,hy]
theorem Y5i {rd:Option Nat} (hT:TF C all ms T) (hC:CtxOK P C) (hrt0:g0.rt=rtOf P) (hg0:g0.n=T.N 0) {Q:Exit->Act->World->Prop} (hQ:∀ L g a w,(∀ j,j < all.size->L j=true)->J C ds X all T L g0 m0 w0 g a w->Q .normal a w) :
  ∀ (fuel:Nat) (listed:Array Bool) (g:G) (a:Act) (w:World),listed.size=all.size->unl listed.toList=fuel->Cl all ms (lst listed)->J C ds X all T (lst listed) g0 m0 w0 g a w->wpAnyIn (FR rd) 0 P .any all Q fuel listed a w:=by
 have none_ready:∀ (listed:Array Bool),listed.size=all.size->Region.ready .any all listed=[]->∀ j,j < all.size->lst listed j=true:=by
  intro listed hs hr j hj;cases hlj:lst listed j with
  | true=>rfl
  | false =>
   obtain ⟨i,q1,q2,q3⟩:=least j hlj;obtain ⟨o,ho⟩:=op_at (all:=all) (i:=i) (by omega);have:i ∈ Region.ready .any all listed:=(Yfi hs ho).2 ⟨q2,fun e he hb=>q3 _ ((hT.sd i o ho).edge e he hb)⟩;rw[hr] at this; cases this
 intro fuel;induction fuel with
 | zero =>
  intro listed g a w hs hu hc hJ
  have hall:∀ j,j < all.size->lst listed j=true:=by
   intro j hj;have h1:=Yk4 listed.toList hu j (by simpa[hs] using hj);unfold lst;simp only[Array.getElem?_toList] at h1;simp[Array.getD_eq_getD_getElem?,h1]
  refine ⟨?_,hQ _ g a w hall hJ⟩;cases hr:Region.ready .any all listed with
  | nil=>rfl
  | cons i l =>
   have hi:i ∈ Region.ready .any all listed:=by rw[hr]; exact List.mem_cons_self ..
   have hlt:i < all.size:=by
    unfold Region.ready at hi;rw[List.mem_filter,List.mem_range] at hi; exact hi.1
   obtain ⟨o,ho⟩:=op_at hlt;have:=((Yfi hs ho).1 hi).1;rw[hall i hlt] at this; cases this
 | succ fuel ih =>
  intro listed g a w hs hu hc hJ;refine ⟨fun hr=>hQ _ g a w (none_ready listed hs hr) hJ,fun i hi=>?_⟩
  have hlt:i < all.size:=by
   unfold Region.ready at hi;rw[List.mem_filter,List.mem_range] at hi; exact hi.1
  obtain ⟨o,ho⟩:=op_at hlt;obtain ⟨hl,hpre⟩:=(Yfi hs ho).1 hi
  have hr:∀ j,tbit (getAt 0 ms i) j=true->lst listed j=true:=by
   intro j hj;rw[(hT.sd i o ho).mask] at hj;obtain ⟨e,q1,q2,q3⟩:=Y5s hj;have h1:=hpre e q1 q2;rcases q3 with rfl | q3
   ·exact h1
   ·exact hc _ h1 (by have:=(hT.sd i o ho).edge e q1 q2; omega) j q3
  have hc':Cl all ms (lst (listed.setIfInBounds i true)):=by
   rw[Yay (by omega)];intro k hk hkn j hj;by_cases e:j=i
   ·subst e; exact Yk7 _ _ _
   ·rw[upd_ne _ _ _ e];by_cases e':k=i
    ·subst e'; exact hr j hj
    ·rw[upd_ne _ _ _ e'] at hk; exact hc k hk hkn j hj
  have hu':unl (listed.setIfInBounds i true).toList=fuel:=by
   have h1:listed.toList[i]?=some false:=by
    have h2:i < listed.size:=by omega
    have h3:listed.toList[i]?=some listed[i]:=by simp[h2]
    rw[h3];unfold lst at hl;simp[Array.getD,h2] at hl;rw[hl]
   have:=Yk3 listed.toList i h1;rw[Array.toList_setIfInBounds];omega
  have hK:∀ g' a' w',J C ds X all T (upd (lst listed) i true) g0 m0 w0 g' a' w'->wpAnyIn (FR rd) 0 P .any all Q fuel (listed.setIfInBounds i true) a' w':=fun g' a' w' hJ' =>
   ih _ g' a' w' (by simpa using hs) hu' hc' (by rw[Yay (by omega)]; exact hJ')
  have hS:=hT.st i o ho
  have hwant:Region.wanted o (yielded all a.tmps)=T.go i:=by
   cases hgd:o.guard with
   | none=>rw[hS.guard.1 hgd]; simp[Region.wanted,hgd]
   | some jw =>
    obtain ⟨j,want⟩:=jw;obtain ⟨gs,h1,h2,h3⟩:=hS.guard.2 j want hgd;exact Ykg hgd h1 (by rw[hJ.size]; exact h2) (hJ.slot hT hc hlt hl hr ((hT.sd i o ho).guard j want gs hgd h1)) h3
  have ho':all[i]?=some o:=by simpa using ho
  unfold wpOpIn;rw[ho'];simp only[hwant];cases hgo:T.go i with
  | true=>rw[if_pos rfl]; exact (hJ.run hT hC hrt0 hc hg0 ho hl hr hgo hK)
  | false=>rw[if_neg (by simp)]; exact ⟨fun _ _=>trivial,hK _ _ _ (hJ.skip hT ho hl hgo)⟩
end
section
variable {P:Program} {C:Ctx} {X:Nat->Prop} {R:Type} {o:Oper} {a:Act} {w:World} {g:G} {m:Mem} {k kp:AV->Mem->Nat->Option R} {r:R} {fr:Fr}
def CSound (P:Program) (ek:EK) (c:Code) (s:CSpec):Prop :=
 ∀ {R:Type} (fr:Fr) (m:Mem) (g:G) (k:Ex->Fr->Mem->Nat->Option R) (r:R) (X:Nat->Prop) (E:Env) (a:Act) (w:World),EnvOK P ek E->s.run fr m g.n k=some r->StOK g X E fr m a w->c.wpIn (FR E.rd) 0 P (PostK X E g m w k r) a w
def pieces (t n:Nat):Code->List Code
 | .seq a b=>pieces t n a++pieces t n b
 | .cond c a b=>(bif Nat.beq t 1 && Nat.beq n (Code.firstId (.cond c a b)) then [.cond c a b] else [])++(pieces t n a++pieces t n b)
 | .block _ a=>pieces t n a
 | .scope a=>(bif Nat.beq t 2 && Nat.beq n (Code.firstId a) then [.scope a] else [])++pieces t n a
 | .loop a=>(bif Nat.beq t 0 && Nat.beq n (Code.firstId a) then [.loop a] else [])++pieces t n a
 | .rangeFunc f ps a b=>bif Nat.beq t 3 && Nat.beq n (Code.firstId a) then [.rangeFunc f ps a b] else []
 | _=>[]
def SumOK (P:Program) (C:Ctx) (c:Code):Prop:=∀ t n s,sumget t n C.sum=some s->∀ d ∈ pieces t n c,CSound P C.ek d s
theorem Ydj {ok:Nat->Prop} {c:Operand} {b:Bool} (hf:FrOK g w ok fr a.tmps) (hc:a.eval c=.bool b) (hn:a.tmps.size=C.nt):FrOK g w ok (onTmp C fr b c) a.tmps:=by
 cases c with
 | tmp t =>
  show FrOK g w ok (bif Nat.blt t C.nt then (t,AV.d .bool b) :: fr else fr) a.tmps;cases hb:Nat.blt t C.nt with
  | false=>exact hf
  | true =>
   intro t';show RV g w ok (fget t' ((t,.d .bool b) :: fr)) _;rw[Y6i];split
   ·rename_i e; subst e;have:a.tmps.getD t undef=.bool b:=hc;rw[this]; exact Y2w b
   ·exact hf t'
 | _=>exact hf
theorem Y5j (hC:CtxOK P C) {E:Env} (hE:EnvOK P C.ek E) {id:Nat} (ops:Array Oper) (hsd:sdOK ops (masks ops.toList []) ops.toList 0=true) {k:Fr->Mem->Nat->Option R} (Q:Exit->Act->World->Prop) (fr:Fr) (m:Mem) (g:G) (a:Act) (w:World)
  (h:aopsD C ops (masks ops.toList []) ops.toList 0 fr m g.n [] k=some r) (hst:StOK g X E fr m a w)
  (hk:∀ fr' m' g' a' w',k fr' m' g'.n=some r->StOK g' X E fr' m' a' w'->Ext g m w g' m' w'->Q .normal a' w'):(Code.region id ops true).wpIn (FR E.rd) 0 P Q a w:=by
 refine wpIn_region_any hC.mixed ?_;obtain ⟨T,⟨t1,t2,t3⟩,t4,t5,t6,t7⟩:=Y1p ⟨fun f cl s hs=>(hC.fx f cl s hs).1,fun id sl s hs=>(hC.ys id sl s hs).1,hC.miss⟩ ops.toList 0 (by simp) (by simp) fr m g.n [] h;have hT:TF C ops (masks ops.toList []) T:=⟨fun j o ho=>t4 j o (Nat.zero_le _) ho,fun j o ho=>Yha ops.toList 0 (by simp) hsd j o (Nat.zero_le _) ho,fun j j' h1 h2 h3=>(t6 j j' (Nat.zero_le _) h1 h2 h3).imp (fun h=>h) (fun ⟨q1,q2,q3⟩=>⟨Y9s q1,q2,fun p h4 h5=>Y9s (q3 p h4 h5)⟩)⟩
 have hN:g.n <= T.N ops.size:=by rw[<- t3]; exact hT.mono ops.size 0 (Nat.zero_le _) (Nat.le_refl _)
 have hL0:∀ j,lst (Array.replicate ops.size false) j=false:=by
  intro j;unfold lst;simp only[Array.getD_eq_getD_getElem?,Array.getElem?_replicate];split <;> rfl
 have hm0:∀ k,memL T (lst (Array.replicate ops.size false)) k=m:=by
  intro k;induction k with
  | zero=>exact t2
  | succ k ih=>show (bif lst (Array.replicate ops.size false) k then _ else _)=_; rw[hL0 k]; exact ih
 refine Y5i (rd:=E.rd) (ds:=a.defers) (X:=X) (g0:=g) (m0:=m) (w0:=w) (Q:=Q) hT hC (hst.rt.trans hE.rt) t3.symm (fun L g' a' w' hall hJ=>?_) ops.size (Array.replicate ops.size false) ⟨g.loc,T.N ops.size,g.dom,g.rt,g.sub⟩ a _ (by simp) ?_ (fun i hi=>by rw[hL0] at hi; cases hi) ?_
 ·have hM:=Ybh hT hall ops.size (Nat.le_refl _);refine hk (T.F ops.size) (T.M ops.size) g' a' w' (by rw[hJ.n]; exact t7) ⟨by rw[<- hM]; exact hJ.inv,fun t=>?_,hJ.size.trans hE.nt.symm,by rw[hJ.defers]; exact hst.defers.mono (by rw[<- hM]; exact hJ.ext.stays),hJ.ext.gx.1.2.trans hst.rt,Nat.le_trans hst.b0 hJ.ext.size⟩ (by rw[<- hM]; exact hJ.ext);rw[<- hM];rcases hT.frame t ops.size (Nat.le_refl _) with ⟨j,o,q1,q2,q3,q4⟩ | ⟨q1,q2⟩
  ·rw[q4]; exact hJ.val j o q2 (hall j q1) t q3
  ·rw[q2];refine hJ.base t (fun j o h1 _=>q1 j o ?_ h1);have:=(List.getElem?_eq_some_iff.1 h1).1;simpa using this
 ·have:∀ n,unl (List.replicate n false)=n:=by
   intro n;induction n with
   | zero=>rfl
   | succ n ih=>simp only[List.replicate_succ,unl,ih]; simp; omega
  simpa using this ops.size
 ·have hI:=hst.inv;have hgx:GExt g ⟨g.loc,T.N ops.size,g.dom,g.rt,g.sub⟩:=⟨⟨hN,rfl⟩,fun τ h=>⟨h,rfl⟩⟩
  have hH:Holds w (okB X g m) { w with drawn:=w.drawn+1 } (okB X ⟨g.loc,T.N ops.size,g.dom,g.rt,g.sub⟩ m):=fun b hb _=>⟨⟨hb.1,fun h=>hb.2 h⟩,rfl⟩
  have hfr:FrOK ⟨g.loc,T.N ops.size,g.dom,g.rt,g.sub⟩ { w with drawn:=w.drawn+1 } (okB X ⟨g.loc,T.N ops.size,g.dom,g.rt,g.sub⟩ m) fr a.tmps:=FrOK.mono hgx hH hst.fr;refine ⟨rfl,?_,fun τ hd=>.inl ?_,fun j o _ hl=>(by rw[hL0] at hl; cases hl),fun t _=>?_,hst.size.trans hE.nt,rfl,?_⟩
  ·rw[hm0];refine ⟨fun τ=>?_,fun τ τ' h1 h2=>hI.inj τ τ' h1 h2,fun τ h1=>hI.far τ h1,hI.xlt,hI.fresh,fun τ hd=>Nat.lt_of_lt_of_le (hI.dlt τ hd) hN,fun τ i h=>hI.sb τ i h⟩;by_cases hd:g.dom τ
   ·exact Y1 hgx hH hd (fun _ _=>rfl) (fun _ _=>⟨rfl,fun _=>rfl⟩) (hI.ok τ)
   ·rw[hI.fresh τ hd]; trivial
  ·rw[t3]; exact hI.dlt τ hd
  ·rw[hm0,t1]; exact hfr t
  ·rw[hm0];exact ⟨hgx,fun τ h=>.inl h,Nat.le_refl _,fun _ _ _=>rfl,fun b h=>.inl h,rfl,rfl,rfl⟩
theorem Ybg {R:Type} {o:Option (List Nat)} {ms:List Nat} {k:List Nat->Option R} {r:R} (h:maskOf o ms k=some r):k ms=some r:=by
 unfold maskOf at h;split at h
 ·obtain ⟨h1,h2⟩:=Y2j h;rw[<- Y2g h1]; exact h2
 ·exact h
theorem StOK.ext {g g':G} {X:Nat->Prop} {E:Env} {fr:Fr} {m m':Mem} {a:Act} {w:World} (h:StOK g X E fr m a w) (hx:Ext g m w g' m' w) (hI:Inv g' X m' w):StOK g' X E fr m' a w :=
 ⟨hI,FrOK.mono hx.gx (hx.holds (X:=X)) h.fr,h.size,h.defers.mono hx.stays,hx.gx.1.2.trans h.rt,h.b0⟩
theorem Yga {g:G} {X:Nat->Prop} {E:Env} {fr:Fr} {m:Mem} {a:Act} {w:World} (n:Nat) (hst:StOK g X E fr m a w) :
  ∃ g',g'.n=(rown1 n fr m g.n).2.2/\StOK g' X E (rown1 n fr m g.n).1 (rown1 n fr m g.n).2.1 a w/\Ext0 E.pin g m w g' (rown1 n fr m g.n).2.1 w:=by
 have h0:rown1 n fr m g.n=(fr,m,g.n)->∃ g',g'.n=(rown1 n fr m g.n).2.2/\StOK g' X E (rown1 n fr m g.n).1 (rown1 n fr m g.n).2.1 a w/\Ext0 E.pin g m w g' (rown1 n fr m g.n).2.1 w:=fun e=>by rw[e]; exact ⟨g,rfl,hst,Ext0.refl ..⟩
 cases hv:fget n fr with
 | vw τ lo q sz =>
  cases hm:mget τ m with
  | row t xs =>
   cases hs:Nat.beq sz t.size with
   | false=>exact h0 (by unfold rown1; simp only[hv,hm,hs,cond_false])
   | true =>
    have he:rown1 n fr m g.n=((n,.sl g.n) :: fr,(g.n,.row t (cut xs lo q)) :: (τ,.gone) :: m,g.n+1):=by unfold rown1; simp only[hv,hm,hs,cond_true]
    rw[he];clear he h0;have hsz:=eb9 hs;subst hsz;have hf:=(hst.fr n).2;rw[hv] at hf;obtain ⟨hd,v,e1,⟨hl1,hl2⟩,ad,e2,hcase⟩:=hf rfl;have hvv:a.tmps.getD n undef=v:=(List.cons.inj e1).1;have hB:=hst.inv.ok τ;rw[hm] at hB;obtain ⟨b1,b2,b3⟩:=hB;have hcl:(cut xs lo q).length=q:=by unfold cut; simp; omega
    rcases hcase with ⟨hn,had⟩ | ⟨hn,o,had,ho1,ho2⟩
    ·have hcap:(g.loc τ).cap=0:=by
      rcases b3 with ⟨_,h⟩ | ⟨h,_⟩
      ·exact h
      ·rw[hn] at h; cases h
     have hq:q=0:=by omega
     let L:Loc:=⟨(g.loc τ).blk,0,0,0,true⟩
     have hI1:=hst.inv.kill τ hd;have hx1:Ext g m w g ((τ,.gone) :: m) w:=Ext.kill τ;have hx2:Ext g ((τ,.gone) :: m) w (g.new L) ((g.n,.row t (cut xs lo q)) :: (τ,.gone) :: m) w:=Ext.fresh hI1 _ L rfl
     have hI2:Inv (g.new L) X ((g.n,.row t (cut xs lo q)) :: (τ,.gone) :: m) w:=hI1.new _ L hx2 (fun _ _=>rfl) (.inl rfl) (by
      refine ⟨?_,?_,.inl ⟨?_,?_⟩⟩
      ·rw[g.new_self,hcl,hq]
      ·rw[g.new_self]; exact Nat.le_refl _
      ·rw[g.new_self]
      ·rw[g.new_self])
     have hx:=hx1.trans hx2;have hst2:=hst.ext hx hI2;refine ⟨g.new L,rfl,⟨hst2.inv,?_,hst2.size,hst2.defers,hst2.rt,hst2.b0⟩,hx.to0⟩;intro t';rw[Y6i];by_cases e:n=t'
     ·subst e;rw[if_pos rfl];refine ⟨fun h=>(by cases h),fun _=>⟨.inr rfl,?_⟩⟩;rw[g.new_self,hvv,e2,had,hq,hcap,Nat.zero_sub]; rfl
     ·rw[if_neg e]; exact hst2.fr t'
    ·obtain ⟨_,c,el,cells,k3,k4,k5,k6⟩:=b3.resolve_left (fun h=>by rw[hn] at h; cases h.1)
     let L:Loc:=⟨(g.loc τ).blk,o,q,(g.loc τ).cap - lo,false⟩
     have hlv:Lv g m τ:=⟨by rw[hm]; rfl,hn⟩
     have hx:Ext g m w (g.new L) ((g.n,.row t (cut xs lo q)) :: (τ,.gone) :: m) w:=Ext.move hst.inv.ndom hlv _ L rfl rfl (fun _ _=>rfl) rfl rfl rfl;have hRl:=fun x cs h=>Rd_len w (okB X g m) t x cs h
     have hcells:=Yx hRl xs cells k4
     have hI2:Inv (g.new L) X ((g.n,.row t (cut xs lo q)) :: (τ,.gone) :: m) w:=hst.inv.move hlv _ L rfl rfl (fun _ _=>rfl) rfl rfl rfl (by
      refine ⟨?_,?_,.inr ⟨?_,c,el,(cells.drop (lo * t.size)).take (q * t.size),?_,?_,fun j v hj=>?_,?_⟩⟩
      ·rw[g.new_self]; exact hcl
      ·rw[g.new_self]; show q <= _ - lo; omega
      ·rw[g.new_self]
      ·rw[g.new_self]; exact k3
      ·have h1:=(Y13 hRl xs cells k4 lo).2;have h2:=(Y13 hRl (xs.drop lo) _ h1 q).1;exact Yz (fun x cs=>Y17 (hx.holds (X:=X)) t x cs) _ _ h2
      ·rw[g.new_self];show c[o+j]?=some v;rw[List.getElem?_take] at hj;split at hj
       ·rename_i hlt;rw[List.getElem?_drop] at hj;have hj2:=k5 _ _ hj
        have hq:0 < q:=by
         cases q with
         | zero=>rw[Nat.zero_mul] at hlt; exact absurd hlt (Nat.not_lt_zero _)
         | succ q=>exact Nat.succ_pos q
        rw[ho1 (by omega)];rw[show (g.loc τ).base+lo * t.size+j=(g.loc τ).base+(lo * t.size+j) by omega];exact hj2
       ·cases hj
      ·rw[g.new_self];show o+((g.loc τ).cap - lo) * t.size <= c.size;rcases Nat.lt_or_ge lo (g.loc τ).cap with h | h
       ·rw[ho1 h,Nat.sub_mul];have:lo * t.size <= (g.loc τ).cap * t.size:=Nat.mul_le_mul_right _ (by omega);omega
       ·rw[show (g.loc τ).cap - lo=0 by omega]; omega)
     have hst2:=hst.ext hx hI2;refine ⟨g.new L,rfl,⟨hst2.inv,?_,hst2.size,hst2.defers,hst2.rt,hst2.b0⟩,hx.to0⟩;intro t';rw[Y6i];by_cases e:n=t'
     ·subst e;rw[if_pos rfl];refine ⟨fun h=>(by cases h),fun _=>⟨.inr rfl,?_⟩⟩;rw[g.new_self,hvv,e2,had]; rfl
     ·rw[if_neg e]; exact hst2.fr t'
  | _=>exact h0 (by unfold rown1; simp only[hv,hm])
 | _=>exact h0 (by unfold rown1; simp only[hv])
theorem Ygd {X:Nat->Prop} {E:Env} {a:Act} {w:World}:∀ (l:List Nat) {g:G} {fr:Fr} {m:Mem},StOK g X E fr m a w ->
  ∃ g',g'.n=(rownS l fr m g.n).2.2/\StOK g' X E (rownS l fr m g.n).1 (rownS l fr m g.n).2.1 a w/\Ext0 E.pin g m w g' (rownS l fr m g.n).2.1 w
 | [],g,fr,m,h=>⟨g,rfl,h,Ext0.refl ..⟩
 | n :: l,g,fr,m,h=>by
  obtain ⟨g1,n1,h1,x1⟩:=Yga n h;simp only[rownS];rw[<- n1];obtain ⟨g2,n2,h2,x2⟩:=Ygd l h1;exact ⟨g2,n2,h2,x1.trans x2⟩
theorem Ygb {R:Type} {X:Nat->Prop} {E:Env} {a:Act} {w w0:World} {l:List Nat} {g g0:G} {fr:Fr} {m m0:Mem} {k:Ex->Fr->Mem->Nat->Option R} {r:R} (h:rownK l (k .normal) fr m g.n=some r) (hst:StOK g X E fr m a w) (hx:Ext0 E.pin g0 m0 w0 g m w) :
  PostK X E g0 m0 w0 k r .normal a w:=by
 obtain ⟨g',n',hst',hx'⟩:=Ygd l hst;have h:k .normal (rownS l fr m g.n).1 (rownS l fr m g.n).2.1 (rownS l fr m g.n).2.2=some r:=h;rw[<- n'] at h;exact ⟨.normal,_,_,g',rfl,h,hst',hx.trans hx'⟩
theorem Yj9 {b:Frame} {a:Act} {k:List Item} {cs:List Frame} {w:World} {c:Code}:step P (lone (b.atR a (.code (.scope c) :: k)) cs w)=.next (lone (b.atR a (.code c :: .inScope c :: k)) cs w) :=
 step_lone_go (by simp[Go.stepG,Go.stepG.exec,Frame.atR])
theorem Yj8 {b:Frame} {a:Act} {k:List Item} {cs:List Frame} {w:World} {c:Code}:step P (lone (b.atR a (.inScope c :: k)) cs w)=.next (lone (b.atR a k) cs w) :=
 step_lone_go (by simp[Go.stepG,Go.stepG.exec,Frame.atR])
theorem Ykl {F:Fence} {n:Nat} {Q:Exit->Act->World->Prop} {a:Act} {w:World} {c:Code} (h:c.wpIn F n P Q a w) (hq:∀ l a w,¬ Q (.goto l) a w):(Code.scope c).wpIn F n P Q a w:=by
 intro b k cs hro hb hr;have h0:(lone (b.atR a (.code (.scope c) :: k)) cs w).fenced P F:=fenced_calm hb hr rfl;obtain ⟨e,a₁,w₁,hq1,harr⟩:=h b (.inScope c :: k) cs hro hb hr;cases e with
 | normal=>exact ⟨.normal,a₁,w₁,hq1,.head h0 Yj9 (StepsIn.trans harr (.one (fenced_calm hb hr rfl) Yj8))⟩
 | exit id =>
  have hx:exitTo id (.inScope c :: k)=exitTo id k:=by simp[exitTo]
  exact ⟨.exit id,a₁,w₁,hq1,fun k' hk=>.head h0 Yj9 (harr.1 k' (by rw[hx]; exact hk)),
   fun hr' hk=>let ⟨k₁,h1,h2⟩:=harr.2 hr' (by rw[hx]; exact hk); ⟨k₁,h1,.head h0 Yj9 h2⟩⟩
 | goto l=>exact absurd hq1 (hq _ _ _)
 | ret=>exact ⟨_,a₁,w₁,hq1,.of_steps (.one h0 Yj9) harr⟩
 | panic ch=>exact ⟨_,a₁,w₁,hq1,.of_steps (.one h0 Yj9) harr⟩
 | outgrown=>exact ⟨_,a₁,w₁,hq1,.of_steps (.one h0 Yj9) harr⟩
theorem Y6e (hC:CtxOK P C) {E:Env} (hE:EnvOK P C.ek E):∀ (c:Code) (hS:SumOK P C c) {R:Type} (fr:Fr) (m:Mem) (g:G) (k:Ex->Fr->Mem->Nat->Option R) (r:R) (X:Nat->Prop) (a:Act) (w:World),
  exec C c fr m g.n k=some r->StOK g X E fr m a w->c.wpIn (FR E.rd) 0 P (PostK X E g m w k r) a w
 | .skip,_,R,fr,m,g,k,r,X,a,w,h,hst=>wpIn_skip ⟨.normal,fr,m,g,rfl,h,hst,Ext0.refl _ _ _ _⟩
 | .region id ops dr,_,R,fr,m,g,k,r,X,a,w,h,hst=>by
  simp only[exec] at h;cases dr with
  | true =>
   simp only[cond_true] at h;have h:=Ybg h;obtain ⟨hsd,h2⟩:=Y2j h;clear h;obtain ⟨hI1,hx1⟩:=Inv.frzL (hzToks id fr C.hz) hst.inv
   exact Y5j hC hE ops hsd (PostK X E g m w k r) fr _ g a w h2 ⟨hI1,FrOK.mono hx1.gx hx1.holds hst.fr,hst.size,hst.defers.mono hx1.stays,hst.rt,Nat.le_trans hst.b0 hx1.size⟩
    (fun fr' m' g' a' w' q1 q2 q3=>Ygb q1 q2 (hx1.trans q3).to0)
  | false =>
   simp only[cond_false] at h;refine wpIn_region ?_
   have:=Y1q (X:=X) hC hE ops (k:=rownK (rwOf id C.rw) (k .normal)) (kx:=k) (PostK X E g m w k r) ops.toList 0 (by simp) (by simp) fr m g a w h hst
    (fun fr' m' g' a' w' q1 q2 q3=>Ygb q1 q2 q3.to0)
    (fun v fr' m' g' a' w' cv q1 q2 q3 q4=>⟨.panic v,fr',m',g',⟨cv,rfl,q3⟩,q1,q2,q4.to0⟩)
   simpa using this
 | .seq x y,hS,R,fr,m,g,k,r,X,a,w,h,hst=>by
  simp only[exec] at h;refine wpIn_seq (wpIn_mono (Y6e hC hE x (fun t n s hs d hd=>hS t n s hs d (by simp[pieces,hd])) fr m g _ r X a w h hst) ?_);rintro e a1 w1 ⟨e',fr1,m1,g1,q1,q2,q3,q4⟩;cases e' with
  | normal =>
   cases q1;exact wpIn_mono (Y6e hC hE y (fun t n s hs d hd=>hS t n s hs d (by simp[pieces,hd])) fr1 m1 g1 k r X a1 w1 q2 q3) (fun e2 a2 w2 hp=>hp.trans q4)
  | exit i=>cases q1; exact ⟨.exit i,fr1,m1,g1,rfl,q2,q3,q4⟩
  | goto l=>cases q1; exact ⟨.goto l,fr1,m1,g1,rfl,q2,q3,q4⟩
  | ret=>cases q1; exact ⟨.ret,fr1,m1,g1,rfl,q2,q3,q4⟩
  | panic v=>obtain ⟨cv,rfl,q5⟩:=q1; exact ⟨.panic v,fr1,m1,g1,⟨cv,rfl,q5⟩,q2,q3,q4⟩
 | .cond c x y,hS,R,fr,m,g,k,r,X,a,w,h,hst=>by
  simp only[exec] at h;split at h
  ·rename_i s hs;exact hS 1 _ s hs _ (by simp[pieces]) fr m g k r X E a w hE h hst
  ·have hc:=ev_ok hst.fr c;split at h
   ·rename_i b hb;rw[hb] at hc;have hcv:=Y2v hc;cases b with
    | true=>exact wpIn_cond_true hcv (Y6e hC hE x (fun t n s hs d hd=>hS t n s hs d (by simp[pieces,hd])) _ m g k r X a w h ⟨hst.inv,Ydj hst.fr hcv (hst.size.trans hE.nt),hst.size,hst.defers,hst.rt,hst.b0⟩)
    | false=>exact wpIn_cond_false hcv (Y6e hC hE y (fun t n s hs d hd=>hS t n s hs d (by simp[pieces,hd])) _ m g k r X a w h ⟨hst.inv,Ydj hst.fr hcv (hst.size.trans hE.nt),hst.size,hst.defers,hst.rt,hst.b0⟩)
   ·cases h
 | .block id c,hS,R,fr,m,g,k,r,X,a,w,h,hst=>by
  simp only[exec] at h;refine wpIn_block (wpIn_mono (Y6e hC hE c (fun t n s hs d hd=>hS t n s hs d (by simpa[pieces] using hd)) fr m g _ r X a w h hst) ?_);rintro e a1 w1 ⟨e',fr1,m1,g1,q1,q2,q3,q4⟩;cases e' with
  | normal=>cases q1; exact ⟨.normal,fr1,m1,g1,rfl,q2,q3,q4⟩
  | exit i =>
   cases q1;simp only at q2;cases hb:Nat.beq i id with
   | true =>
    rw[hb] at q2;show (if i=id then _ else _);rw[if_pos (eb9 hb)];exact ⟨.normal,fr1,m1,g1,rfl,q2,q3,q4⟩
   | false =>
    rw[hb] at q2;show (if i=id then _ else _);rw[if_neg (fun e=>by subst e; rw[Nat.beq_refl] at hb; cases hb)];exact ⟨.exit i,fr1,m1,g1,rfl,q2,q3,q4⟩
  | goto l=>cases q1; exact ⟨.goto l,fr1,m1,g1,rfl,q2,q3,q4⟩
  | ret=>cases q1; exact ⟨.ret,fr1,m1,g1,rfl,q2,q3,q4⟩
  | panic v=>obtain ⟨cv,rfl,q5⟩:=q1; exact ⟨.panic v,fr1,m1,g1,⟨cv,rfl,q5⟩,q2,q3,q4⟩
 | .loop c,hS,R,fr,m,g,k,r,X,a,w,h,hst=>by
  simp only[exec] at h;split at h
  ·rename_i s hs;exact hS 0 _ s hs _ (by simp[pieces]) fr m g k r X E a w hE h hst
  ·cases h
 | .exit id,_,R,fr,m,g,k,r,X,a,w,h,hst=>wpIn_exit ⟨.exit id,fr,m,g,rfl,h,hst,Ext0.refl _ _ _ _⟩
 | .ret,_,R,fr,m,g,k,r,X,a,w,h,hst=>wpIn_ret ⟨.ret,fr,m,g,rfl,h,hst,Ext0.refl _ _ _ _⟩
 | .label l,_,R,fr,m,g,k,r,X,a,w,h,hst=>wpIn_label ⟨.normal,fr,m,g,rfl,h,hst,Ext0.refl _ _ _ _⟩
 | .goto l,_,R,fr,m,g,k,r,X,a,w,h,hst=>wpIn_goto ⟨.goto l,fr,m,g,rfl,h,hst,Ext0.refl _ _ _ _⟩
 | .scope c,hS,R,fr,m,g,k,r,X,a,w,h,hst=>by
  simp only[exec] at h;split at h
  ·rename_i s hs;exact hS 2 _ s hs _ (by simp[pieces]) fr m g k r X E a w hE h hst
  ·have hmid:=Y6e hC hE c (fun t n s hs d hd=>hS t n s hs d (by simp[pieces,hd])) fr m g _ r X a w h hst
   have hpost:∀ e a1 w1,PostK X E g m w (fun e fr m N=>match e with | .goto _=>none | e=>k e fr m N) r e a1 w1->PostK X E g m w k r e a1 w1/\∀ l,e ≠ .goto l:=by
    rintro e a1 w1 ⟨e',fr1,m1,g1,q1,q2,q3,q4⟩;cases e' with
    | normal=>cases q1; exact ⟨⟨.normal,fr1,m1,g1,rfl,q2,q3,q4⟩,fun l=>by simp⟩
    | exit i=>cases q1; exact ⟨⟨.exit i,fr1,m1,g1,rfl,q2,q3,q4⟩,fun l=>by simp⟩
    | goto l=>cases q2
    | ret=>cases q1; exact ⟨⟨.ret,fr1,m1,g1,rfl,q2,q3,q4⟩,fun l=>by simp⟩
    | panic v=>obtain ⟨cv,rfl,q5⟩:=q1; exact ⟨⟨.panic v,fr1,m1,g1,⟨cv,rfl,q5⟩,q2,q3,q4⟩,fun l=>by simp⟩
   exact wpIn_mono (Ykl (wpIn_mono hmid hpost) (fun l a w h=>h.2 l rfl)) (fun e a w h=>h.1)
 | .rangeFunc f ps x y,hS,R,fr,m,g,k,r,X,a,w,h,hst=>by
  simp only[exec] at h;split at h
  ·rename_i s hs;exact hS 3 _ s hs _ (by simp[pieces]) fr m g k r X E a w hE h hst
  ·cases h
 | .refuse _,_,R,fr,m,g,k,r,X,a,w,h,hst=>by cases h
end
end Go.Proofs.YtifbgkikkiallaaGreat.VX

