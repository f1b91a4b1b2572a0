import Derived.Test.YtifbgkikkiallaaGreatEdgesRunP0
import Derived.Test.YtifbgkikkiallaaGreatEdgesRunP2
set_option linter.unusedVariables false
set_option linter.unusedSimpArgs false
namespace Go.Proofs.YtifbgkikkiallaaGreat.VX.VxZ_Z
open Go.Proofs
theorem Y3b {p:Pg} (hp:RightP p):capsOK p.1:=⟨Y3a hp,fun n hn=>hp.caps n hn⟩
theorem lt63 {n:Nat} (h:n <= maxLen):n < 9223372036854775808:=Nat.lt_of_le_of_lt h (by decide)
theorem Yiq {p:Pg} (h:Ty.wf y49 p):small p:=⟨lt63 h.1.1,lt63 h.2.2.2.2.1.1,lt63 h.2.2.2.2.2.1,fun s hs=>lt63 (h.2.2.2.2.1.2 s hs).1.1,fun b hb=>lt63 (h.2.2.2.2.2.2 b hb).1⟩
theorem modn (x:Int) (n:Nat) (h0:0 < n) (hn:n <= 100000):∃ j:Nat,j < n/\Int.tmod (IntKind.wrap .i64 (Int.tmod x (n:Int)+n)) n=j:=by
 have t1:=Int.tmod_lt_of_pos x (show (0:Int) < n by omega);have t2:=Int.lt_tmod_of_pos x (show (0:Int) < n by omega);rw[wrapI (n:=Int.tmod x n+n) (by omega) (by omega)];have t3:0 <= Int.tmod (Int.tmod x n+n) n:=Int.tmod_nonneg _ (by omega);have t4:=Int.tmod_lt_of_pos (Int.tmod x n+n) (show (0:Int) < n by omega);exact ⟨(Int.tmod (Int.tmod x n+n) n).toNat,by omega,by omega⟩
theorem fuelN (x:Int) (n:Nat) (h0:0 < n) (hn:n <= 300):1 <= IntKind.wrap .i64 (1+Int.tmod (IntKind.wrap .i64 (Int.tmod x (n:Int)+n)) n)/\IntKind.wrap .i64 (1+Int.tmod (IntKind.wrap .i64 (Int.tmod x (n:Int)+n)) n) <= 300:=by
 obtain ⟨j,h1,h2⟩:=modn x n h0 (by omega);rw[h2,wrapI (by omega) (by omega)];omega
theorem Ygx (p:Pg) (P:List Int) (n:Int) (hs:small p) (hP:P.length <= 300) (hn:1 <= n/\n <= 300) :
  (∃ r,Z5t (p,P,n)=some (r,1)) \/ ∃ a l b,Z5t (p,P,n)=some ((a,l,b),0)/\capsOK p.1/\GoodL p.1 l/\0 < l.length/\l.length < 28100/\RightP p/\l=(runP p P n).2.1:=by
 rw[run_x p hs P (by omega)];unfold runF;by_cases hq:rightP p
 case neg=>exact .inl ⟨_,by rw[if_pos hq]⟩
 have hR:=(Yg1 p).1 hq;refine .inr ⟨(runP p P n).1,(runP p P n).2.1,(runP p P n).2.2,?_,Y3b hR,Ygz hR P n (by omega),?_,?_,hR,rfl⟩
 ·rw[if_neg (not_not_intro hq),if_neg (by omega)]
 ·show 0 < _+1; omega
 ·have:=(Ygr hR P n (by omega)).1; omega
set_option maxHeartbeats 1000000
theorem Yd9 {caps:List Int} {l:List Ev} (hc:capsOK caps) (hG:GoodL caps l) (hl:l.length < 29000) (i:Int):Z12 (caps,l,i)=some (if 0 <= i/\i < l.length then (Y5w caps l i.toNat,0) else ([],3)):=by
 unfold Z12;simp only;rw[Y1i hc hG hl];simp only[bS9];rw[bif_f (by rfl)];by_cases h1:i < 0
 ·rw[bif_t (dT9 h1),if_neg (by omega)]
 rw[bif_f (dF9 h1)];by_cases h2:i ≥ l.length
 ·rw[bif_t (dT9 h2),if_neg (by omega)]
 rw[bif_f (dF9 h2),if_pos (by omega),bif_t (inbL.2 (by rw[List.length_map,List.length_range]; omega))];obtain ⟨n,rfl⟩:∃ n:Nat,i=n:=⟨i.toNat,by omega⟩
 rw[Yk0,getAtL _ (by rw[List.length_map,List.length_range]; omega)];simp
theorem Y1g:Z49 ()=some true:=by
 have hG:GoodL [] [((0:Int),(0:Int),(0:Int),(0:Int),(-1:Int)),(0,1,1,0,-1),(1,0,0,0,1)]:=by
  intro i hi;have hi:i < 3:=hi
  match i,hi with
  | 0,_ =>
   show goodE [] [] (0,0,0,0,-1);refine ⟨⟨by decide,by decide,by decide,by decide,by decide,by decide,by decide⟩,?_⟩;rw[if_pos (by rfl)];exact ⟨rfl,rfl,rfl,by rw[if_pos (by rfl)]⟩
  | 1,_ =>
   show goodE [] [(0,0,0,0,-1)] (0,1,1,0,-1);refine ⟨⟨by decide,by decide,by decide,by decide,by decide,by decide,by decide⟩,?_⟩;rw[if_neg (by decide)];refine ⟨by decide,fun _=>rfl,fun q=>absurd rfl q,?_,?_⟩
   ·unfold fromE; rw[if_neg (by decide)]
   ·refine ⟨fun _=>rfl,?_,?_,?_,?_,?_,?_,?_,?_⟩ <;> exact fun q=>absurd q (by decide)
  | 2,_ =>
   show goodE [] [(0,0,0,0,-1),(0,1,1,0,-1)] (1,0,0,0,1);refine ⟨⟨by decide,by decide,by decide,by decide,by decide,by decide,by decide⟩,?_⟩;rw[if_pos (by rfl)];refine ⟨rfl,rfl,rfl,?_⟩;rw[if_neg (by decide)];exact ⟨by decide,rfl,rfl⟩
 have ho:=Yd9 (caps:=[]) ⟨by decide,by simp⟩ hG (by decide) 2;rw[if_pos (by decide)] at ho
 have he:Y5w [] [((0:Int),(0:Int),(0:Int),(0:Int),(-1:Int)),(0,1,1,0,-1),(1,0,0,0,1)] 2=[1]:=by
  refine Y6c _ _ (Y5y _ _ _) (List.pairwise_singleton _ _) fun x=>?_
  rw[Y5z,ms9];constructor
  ·rintro ⟨k,rfl,hk,hE⟩;rcases hE with q | q | q | q | q | q | q
   ·exact absurd q (by show ¬ (k:Int)+1=((0:Nat):Int); omega)
   ·exact q.2
   ·exact absurd q.1 (by decide)
   ·exact absurd q.1 (by decide)
   ·exact absurd q.1 (by decide)
   ·exact absurd q.1 (by decide)
   ·exact absurd q.1 (by decide)
  ·rintro rfl;exact ⟨1,rfl,by decide,.inr (.inl ⟨rfl,rfl⟩)⟩
 have ho:Z12 ([],[((0:Int),(0:Int),(0:Int),(0:Int),(Int.negSucc 0)),(0,1,1,0,Int.negSucc 0),(1,0,0,0,1)],2)=some ([1],0):=by rw[<- he]; exact ho
 unfold Z49;rw[ho];rfl
theorem cnt_lt {l:List Ev} {u v:Nat} (h:u < v) (hv:v <= l.length) {k o:Int} (hk:l[u].2.1=k) (ho:l[u].2.2.1=o):cntE (l.take u) k o+1 <= cntE (l.take v) k o:=by
 have h1:(l.take (u+1)).Sublist (l.take v):=List.take_sublist_take_left (by omega);have h2:=(h1.filter fun e=>e.2.1 == k && e.2.2.1 == o).length_le;have h3:l.take (u+1)=l.take u++[l[u]]:=(List.take_append_getElem (by omega)).symm
 have h4:(l.take (u+1)).filter (fun e=>e.2.1 == k && e.2.2.1 == o)=(l.take u).filter (fun e=>e.2.1 == k && e.2.2.1 == o)++[l[u]]:=by
  rw[h3,List.filter_append,List.filter_cons_of_pos (by simp[hk,ho])]; rfl
 rw[h4,ln9] at h2;unfold cntE;simp only[List.length_cons,List.length_nil] at h2;omega
section
variable {caps:List Int} {l:List Ev}
theorem org_at (hG:GoodL caps l) {u:Nat} (hu:u < l.length) (h:(getE l u).2.1=3 \/ (getE l u).2.1=5) {k:Nat} (hk:(getE l u).2.2.2.2=(k:Int)) :
  k < u/\(getE l k).1=(getE l u).1/\((getE l k).2.1=orgK (getE l u).2.1/\(getE l k).2.2.1=(getE l u).2.2.1 \/ (getE l k).2.1=8):=by
 have hg:=Y8b hG hu;have h0:=hg.1.2.2.2.2.2.2;have htl:(l.take u).length=u:=by rw[List.length_take]; omega
 rw[hk,htl] at h0;have h2:=hg.2;rw[if_neg (by omega)] at h2;have h3:=h2.2.2.2.1;unfold fromE at h3;rw[if_pos (by unfold begK; omega),hk,<- Y84 (by omega) (by omega) h0] at h3;obtain ⟨k1,k2,k3,k4⟩:=(Y9y (l:=l) (getE l u).1 u (by omega)).2 k (by omega);refine ⟨by omega,?_,?_⟩
 ·rw[Y82 k1,k3]
 ·exact h3.2.2.imp id fun q=>q.1
theorem Yd4 {o n:Int} {k:Nat} {kk:Int} (h:(k:Int)=numR l kk o n):∃ u,u < l.length/\isN kk o n (getE l u)=true/\(getE l u).2.2.2.2=(k:Int)/\l.find? (isN kk o n)=some (getE l u):=by
 unfold numR at h;cases e:l.find? (isN kk o n) with
 | none=>rw[e] at h; exact absurd h (by show ¬ (k:Int)=-1; omega)
 | some s =>
  rw[e] at h;obtain ⟨u,hu,rfl⟩:=List.mem_iff_getElem.1 (List.mem_of_find?_eq_some e);exact ⟨u,hu,by rw[Y82 hu]; exact List.find?_some e,by rw[Y82 hu]; exact h.symm,by rw[Y82 hu]⟩
theorem Y8d (hG:GoodL caps l) {i k:Nat} (hi:i < l.length) (h5:(getE l i).2.1=5) (hk:k < i) (he:isE caps l k i) (hg:(getE l k).1 ≠ (getE l i).1) :
  (getE l k).2.1=2/\(getE l k).2.2.1=(getE l i).2.2.1 \/ (getE l k).2.1=8:=by
 rcases he with q | q | q | q | q | q | q
 ·obtain ⟨k1,k2,k3,k4⟩:=(Y9y (l:=l) (getE l i).1 i (by omega)).2 k (by omega);exact absurd (by rw[Y82 k1,k3]) hg
 ·omega
 ·obtain ⟨u,hu,h1,h2,_⟩:=Yd4 q.2;obtain ⟨n1,n2,n3⟩:=Y9g.1 h1;obtain ⟨_,_,r⟩:=org_at hG hu (.inl n1) h2;rw[n1,n2] at r;exact r
 ·omega
 ·omega
 ·omega
 ·omega
theorem Yho (hG:GoodL caps l) (hP:Pair0 caps l) {i:Nat} (hi:i < l.length) (h3:(getE l i).2.1=3) (h0:capO caps (getE l i).2.2.1=0) :
  ∃ k,k < i/\isE caps l k i/\(getE l k).1 ≠ (getE l i).1/\((getE l k).2.1=4/\(getE l k).2.2.1=(getE l i).2.2.1 \/ (getE l k).2.1=8):=by
 obtain ⟨j,f,hf,hj,f5,fo,fn,fg⟩:=hP i (getE l i) (by rw[Y82 hi]; exact List.getElem?_eq_getElem hi) h3 h0;obtain ⟨hjl,rfl⟩:=List.getElem?_eq_some_iff.1 hf;rw[<- Y82 hjl] at f5 fo fn fg;have hgj:=Y8b hG hjl;have hs:=hgj.2;rw[if_neg (by omega)] at hs;have hb:=hs.2.2.2.1;unfold fromE at hb;rw[if_pos (by unfold begK; omega)] at hb;obtain ⟨k,hk⟩:∃ k:Nat,(getE l j).2.2.2.2=k:=⟨(getE l j).2.2.2.2.toNat,by have:=hb.1; omega⟩
 obtain ⟨o1,o2,o3⟩:=org_at hG hjl (.inr f5) hk;have o4:orgK (getE l j).2.1=4:=by rw[f5]; rfl
 rw[o4,fo] at o3
 have hki:k < i:=by
  rcases hj with q | q
  ·omega
  ·by_cases e:k=i
   ·subst e; omega
   ·omega
 refine ⟨k,hki,.inr (.inr (.inr (.inl ⟨h3,?_,?_⟩))),by rw[o2]; exact fg,o3⟩
 ·rw[h0]; exact (Y8b hG hi).1.2.2.2.2.1
 ·rw[h0,Int.sub_zero];have hm:isN 5 (getE l i).2.2.1 (getE l i).2.2.2.1 (getE l j)=true:=Y9g.2 ⟨f5,fo,fn⟩;cases e:l.find? (isN 5 (getE l i).2.2.1 (getE l i).2.2.2.1) with
  | none=>exact absurd hm (List.find?_eq_none.1 e _ (by rw[Y82 hjl]; exact gm9 hjl))
  | some s =>
   obtain ⟨u,hu,rfl⟩:=List.mem_iff_getElem.1 (List.mem_of_find?_eq_some e);have hsu:=List.find?_some e;rw[<- Y82 hu] at hsu e;obtain ⟨s1,s2,s3⟩:=Y9g.1 hsu
   have num:∀ {v:Nat} (hv:v < l.length),(getE l v).2.1=5->(getE l v).2.2.2.1=cntE (l.take v) 5 (getE l v).2.2.1:=fun hv q=>by
    have:=(Y8b hG hv).2;rw[if_neg (by omega)] at this;exact (this.2.2.2.2.2.2.1 q).2.1
   have nu:=num hu s1;have nj:=num hjl f5;rw[s2] at nu;rw[fo] at nj
   have:u=j:=by
    rcases Nat.lt_trichotomy u j with q | q | q
    ·have:=cnt_lt (l:=l) q (by omega) (k:=5) (o:=(getE l i).2.2.1) (by rw[<- Y82 hu]; exact s1) (by rw[<- Y82 hu]; exact s2);omega
    ·exact q
    ·have:=cnt_lt (l:=l) q (by omega) (k:=5) (o:=(getE l i).2.2.1) (by rw[<- Y82 hjl]; exact f5) (by rw[<- Y82 hjl]; exact fo);omega
   subst this;unfold numR;rw[e];exact hk.symm
theorem obj_in (hG:GoodL caps l) {i:Nat} (hi:i < l.length):0 <= (getE l i).2.2.1/\((getE l i).2.1=3->(getE l i).2.2.1 < caps.length):=by
 have hg:=Y8b hG hi;have h:=hg.2;by_cases h0:(getE l i).2.1=0
 ·rw[if_pos h0] at h;exact ⟨by have:=h.2.1; omega,fun q=>by omega⟩
 ·rw[if_neg h0] at h;by_cases h1:(getE l i).2.1=1
  ·exact ⟨by have:=h.2.2.2.2.1 h1; omega,fun q=>by omega⟩
  ·have:=h.2.2.1 h1;refine ⟨this.1,fun q=>?_⟩;rw[q] at this;exact this.2
def hasE (caps:List Int) (l:List Ev) (kd:Int) (i:Nat):Prop:=∃ k:Nat,k < i/\isE caps l k i/\(getE l k).1 ≠ (getE l i).1/\((getE l k).2.1=kd/\(getE l k).2.2.1=(getE l i).2.2.1 \/ (getE l k).2.1=8)
noncomputable abbrev allE (caps:List Int) (l:List Ev):List (List Int):=(List.range l.length).map (Y5w caps l)
theorem Y1h {i:Nat} (hi:i < l.length):getAt [] (allE caps l) i=Y5w caps l i:=by
 rw[getAtL _ (by simpa using hi)]; simp
theorem Y8g (hl:l.length < 29000) {i:Nat} (hi:i < l.length) (kd:Int) (a:Int) (b:List (Int × Int)) :
  Z47 (kd,(getE l i).2.2.1,allE caps l,(i:Int),(a,l,b),getE l i)=some (tB (hasE caps l kd i),allE caps l,(i:Int),(a,l,b),getE l i):=by
 have hle:=Y5x caps l i
 have key:=Yar (f:=Zab) (Y5w caps l i) (fun at1=>tB ((getE l at1).1 ≠ (getE l i).1/\((getE l at1).2.1=kd/\(getE l at1).2.2.1=(getE l i).2.2.1 \/ (getE l at1).2.1=8))) (fun m=>(kd,(getE l i).2.2.1,Y5w caps l i,((Y5w caps l i).length:Int),(m:Int),allE caps l,(i:Int),(a,l,b),getE l i)) (fun _=>.inl (true,allE caps l,(i:Int),(a,l,b),getE l i)) (.inr (allE caps l,(i:Int),(a,l,b),getE l i)) (by
   intro m hm;obtain ⟨k,ek,hk,he⟩:=Y5z.1 (gm9 hm);unfold Zab;simp only;rw[bif_t (dT9 (by omega)),bif_t (Y8t hm),Yk0,getAtL _ hm,ek,bif_t (Y8t (by omega)),Y81,wrapI (by omega) (by omega)];by_cases c1:(getE l k).1=(getE l i).1
   ·rw[bif_f (bne_eq_false_iff_eq.2 c1),tB_f (fun q=>q.1 c1)]; rfl
   rw[bif_t (bne_iff_ne.2 c1)];by_cases c2:(getE l k).2.1=kd
   ·rw[bif_t (beq_iff_eq.2 c2)];by_cases c3:(getE l k).2.2.1=(getE l i).2.2.1
    ·rw[bif_t (beq_iff_eq.2 c3),tB_t ⟨c1,.inl ⟨c2,c3⟩⟩]; rfl
    rw[bif_f (beq_eq_false_iff_ne.2 c3)];by_cases c4:(getE l k).2.1=8
    ·rw[bif_t (beq_iff_eq.2 c4),tB_t ⟨c1,.inr c4⟩]; rfl
    ·rw[bif_f (beq_eq_false_iff_ne.2 c4),tB_f (fun q=>q.2.elim (fun z=>c3 z.2) c4)]; rfl
   ·rw[bif_f (beq_eq_false_iff_ne.2 c2)];by_cases c4:(getE l k).2.1=8
    ·rw[bif_t (beq_iff_eq.2 c4),tB_t ⟨c1,.inr c4⟩]; rfl
    ·rw[bif_f (beq_eq_false_iff_ne.2 c4),tB_f (fun q=>q.2.elim (fun z=>c2 z.1) c4)]; rfl) (by
   unfold Zab;simp only;rw[bif_f (dF9 (by omega))])
 unfold Z47;simp only;rw[bif_t (Y8t (by simpa using hi)),Yk0,Y1h hi,show loop Zab (kd,(getE l i).2.2.1,Y5w caps l i,((Y5w caps l i).length:Int),0,allE caps l,(i:Int),(a,l,b),getE l i)=_ from key];simp only[bS9];cases e:(Y5w caps l i).findIdx? (fun at1=>tB ((getE l at1).1 ≠ (getE l i).1/\((getE l at1).2.1=kd/\(getE l at1).2.2.1=(getE l i).2.2.1 \/ (getE l at1).2.1=8))) with
 | some m =>
  have h:hasE caps l kd i:=by
   refine Classical.byContradiction fun h=>?_
   rw[List.findIdx?_eq_none_iff.2 (fun x hx=>tB_f fun q=>by
    obtain ⟨k,rfl,hk,he⟩:=Y5z.1 hx;exact h ⟨k,hk,he,q⟩)] at e
   cases e
  rw[tB_t h]
 | none =>
  have h:¬ hasE caps l kd i:=fun ⟨k,hk,he,q⟩=>by
   have:=List.findIdx?_eq_none_iff.1 e _ (Y5z.2 ⟨k,rfl,hk,he⟩);rw[tB_t q] at this; cases this
  rw[tB_f h]
theorem Yh8 (hl:l.length < 29000) {i:Nat} (hi:i < l.length) (h:∀ k:Nat,k < i->isE caps l k i->(getE l k).1=(getE l i).1):Z4b (l,Y5w caps l i,(getE l i).1)=some true:=by
 have hle:=Y5x caps l i
 have key:=Yap (f:=Zad) (Y5w caps l i).length (fun m=>(l,(getE l i).1,Y5w caps l i,((Y5w caps l i).length:Int),(m:Int))) (.inr ()) (by
   intro m hm;obtain ⟨k,ek,hk,he⟩:=Y5z.1 (gm9 hm);unfold Zad;simp only;rw[bif_t (dT9 (by omega)),bif_t (Y8t hm),Yk0,getAtL _ hm,ek,bif_t (Y8t (by omega)),Y81,bif_f (bne_eq_false_iff_eq.2 (h k hk he)),wrapI (by omega) (by omega)];rfl) (by
   unfold Zad;simp only;rw[bif_f (dF9 (by omega))]) 0 (Nat.zero_le _)
 unfold Z4b;simp only;rw[show loop Zad (l,(getE l i).1,Y5w caps l i,((Y5w caps l i).length:Int),0)=_ from key];rfl
theorem Yk6 (hl:l.length < 29000) {i:Nat} (hi:i < l.length) (p:Pg) (a:Int) (b:List (Int × Int)) :
  loop Za9 (l,(l.length:Int),(i:Int),Y5w caps l i,((Y5w caps l i).length:Int),0,p,(a,l,b),allE caps l,(i:Int),getE l i)=some (.inr (l,(l.length:Int),(i:Int),p,(a,l,b),allE caps l,(i:Int),getE l i)):=by
 have hle:=Y5x caps l i
 exact Yap (f:=Za9) (Y5w caps l i).length (fun m=>(l,(l.length:Int),(i:Int),Y5w caps l i,((Y5w caps l i).length:Int),(m:Int),p,(a,l,b),allE caps l,(i:Int),getE l i)) (.inr (l,(l.length:Int),(i:Int),p,(a,l,b),allE caps l,(i:Int),getE l i)) (by
   intro m hm;obtain ⟨k,ek,hk,he⟩:=Y5z.1 (gm9 hm);unfold Za9;simp only;rw[bif_t (dT9 (by omega)),bif_t (Y8t hm),Yk0,getAtL _ hm,ek,bif_f (dF9 (by omega)),bif_f (dF9 (by omega)),wrapI (n:=(m:Int)+1) (by omega) (by omega)];by_cases h0:m=0
   ·rw[bif_f (dF9 (by omega))]; rfl
   ·have hlt:=List.pairwise_iff_getElem.1 (Y5y caps l i) (m - 1) m (by omega) hm (by omega);rw[bif_t (dT9 (by omega)),bif_t (Y8t (by simpa using hi)),Yk0,Y1h hi,wrapI (by omega) (by omega),show ((m:Int) - 1)=((m - 1:Nat):Int) by omega,bif_t (Y8t (by omega)),Yk0,getAtL _ (show m - 1 < (Y5w caps l i).length by omega),bif_f (dF9 (by omega))];rfl) (by
   unfold Za9;simp only;rw[bif_f (dF9 (by omega))]) 0 (Nat.zero_le _)
end
set_option maxHeartbeats 1000000
theorem getE_nat' {l:List Ev} {i:Nat} (h:i < l.length):getAt ((0:Int),((0:Int),((0:Int),((0:Int),(0:Int))))) l i=getE l i:=by rw[Y82 h]; exact getAtL _ h
theorem Y60 (p:Pg) (P:List Int) (x:Int) (hs:small p):F_plaitlaw15_EdgesRun (p,P,x)=some true:=by
 have hPl:(P.take 100).length <= 100:=by simp; omega
 have hcv:=cutm P 100;unfold F_plaitlaw15_EdgesRun;simp only;have hn:=fuelN x 100 (by omega) (by omega);rw[show ((100:Nat):Int)=100 from rfl] at hn;generalize IntKind.wrap .i64 (1+Int.tmod (IntKind.wrap .i64 (Int.tmod x 100+100)) 100)=n at *;rw[bif_t (sub3L.2 ⟨by omega,by omega,by omega⟩),show cut P (toN 0) (toN (Min.min ((P.length:Nat):Int) 100) - toN 0)=P.take 100 from hcv];generalize P.take 100=P at *;rcases Ygx p P n hs (by omega) hn with ⟨r,hr⟩ | ⟨a,l,b,hr,hc,hG,h0,hl,hR,hlr⟩
 ·rw[hr];simp only[bS9];rw[bif_t (by rfl),Y1g]; rfl
 have hP:Pair0 p.1 l:=by
  obtain ⟨_,_,_,_,q⟩:=Ygy hR P n (by omega);rw[hlr]; exact q
 clear hlr;rw[hr,bS9];have hl:l.length < 29000:=by omega
 rw[Y1i hc hG hl,Y1g];simp only[bS9];have hE:((List.range l.length).map (Y5w p.1 l)).length=l.length:=by simp
 rw[bif_f (by rfl),bif_f (by rfl),bif_f (bne_eq_false_iff_eq.2 (by omega)),bif_f (by rfl)]
 have key:=Yap (f:=Za7) l.length (fun i=>(l,(l.length:Int),(i:Int),p,(a,l,b),allE p.1 l)) (.inr ()) (by
   intro i hi;have hle:=Y5x p.1 l i;obtain ⟨o1,o2⟩:=obj_in hG hi
   have hb:(((((Y5w p.1 l i).length:Nat):Int) == 0) == ((i:Int) == 0))=true:=by
    by_cases z:i=0
    ·subst z;have:(Y5w p.1 l 0).length=0:=by omega
     rw[this]; rfl
    ·obtain ⟨k,hk,he⟩:=Y8j hG hi z;have:=List.length_pos_of_mem (Y5z.2 ⟨k,rfl,hk,he⟩);rw[beq_eq_false_iff_ne.2 (show (((Y5w p.1 l i).length:Nat):Int) ≠ 0 by omega),beq_eq_false_iff_ne.2 (show (i:Int) ≠ 0 by omega)]; rfl
   have hsent:(getE l i).2.1=3->capO p.1 (getE l i).2.2.1=0->hasE p.1 l 4 i:=fun q z=>Yho hG hP hi q z
   have hcap:(getE l i).2.1=3->∃ h:(getE l i).2.2.1.toNat < p.1.length,(getE l i).2.2.1=(((getE l i).2.2.1.toNat:Nat):Int)/\capO p.1 (getE l i).2.2.1=p.1[(getE l i).2.2.1.toNat]:=fun q=>by
    have:=o2 q;refine ⟨by omega,by omega,?_⟩;unfold capO;simp[List.getD,show (getE l i).2.2.1.toNat < p.1.length by omega]
   unfold Za7;simp only;rw[bif_t (dT9 (by omega)),bif_t (Y8t hi),bif_t (Y8t (by simpa using hi)),Yk0,Y1h hi,hb,bif_f (by rfl),bif_t (Y8t (by simpa using hi)),getE_nat' hi,Yk6 hl hi];simp only[bS9];rw[wrapI (by omega) (by omega)];by_cases c5:(getE l i).2.1=5
   ·rw[bif_t (beq_iff_eq.2 c5),Y8g hl hi];simp only[bS9];by_cases q:hasE p.1 l 2 i
    ·rw[tB_t q,bif_f (by rfl),bif_f (dF9 (by omega)),bif_f (beq_eq_false_iff_ne.2 (by omega)),bif_f (beq_eq_false_iff_ne.2 (by omega))]; rfl
    ·rw[tB_f q,bif_t (by rfl),bif_t (Y8t (by simpa using hi)),Yk0,Y1h hi,Yh8 hl hi fun k hk he=>Classical.byContradiction fun z=>q ⟨k,hk,he,z,Y8d hG hi c5 hk he z⟩];simp only[bS9];rw[bif_f (by rfl),bif_f (dF9 (by omega)),bif_f (beq_eq_false_iff_ne.2 (by omega)),bif_f (beq_eq_false_iff_ne.2 (by omega))]; rfl
   ·rw[bif_f (beq_eq_false_iff_ne.2 c5),bif_f (dF9 (by omega))];by_cases c3:(getE l i).2.1=3
    ·obtain ⟨h1,h2,h3⟩:=hcap c3;rw[bif_t (beq_iff_eq.2 c3),bif_f (dF9 (by have:=o2 c3; omega)),bif_t (beq_iff_eq.2 c3),Y8g hl hi];rw[show inb (getE l i).2.2.1 p.1.length=true from inbL.2 (by have:=o2 c3; omega),bif_t rfl,show getAt 0 p.1 (toN (getE l i).2.2.1)=capO p.1 (getE l i).2.2.1 by rw[h3]; exact getAtL _ h1];by_cases c0:capO p.1 (getE l i).2.2.1=0
     ·rw[bif_t (beq_iff_eq.2 c0),tB_t (hsent c3 c0)]; rfl
     ·rw[bif_f (beq_eq_false_iff_ne.2 c0)]; rfl
    ·rw[bif_f (beq_eq_false_iff_ne.2 c3),bif_f (beq_eq_false_iff_ne.2 c3)]; rfl) (by
   unfold Za7;simp only;rw[bif_f (dF9 (by omega))]) 0 (Nat.zero_le _)
 rw[show loop Za7 (l,((l.length:Nat):Int),0,p,(a,l,b),(List.range l.length).map (Y5w p.1 l))=_ from key];rfl
theorem edgesRun_wf (x:HL [y49,y1,.int .i64]) (h:wfHL [y49,y1,.int .i64] x):F_plaitlaw15_EdgesRun x=some true:=Y60 x.1 x.2.1 x.2.2 (Yiq h.1)
end Go.Proofs.YtifbgkikkiallaaGreat.VX.VxZ_Z

