/- Laid for the law RaceTells. -/
import Derived.Test.YtifbgkikkiallaaGreatRaceTellsP0
set_option linter.unusedVariables false
set_option linter.unusedSimpArgs false
set_option maxHeartbeats 1000000
namespace Go.Proofs.YtifbgkikkiallaaGreat.VX.VxZ_Z
open Go.Proofs
section
variable {caps:List Int} {l:List Ev}
theorem Hb.lt {i j:Nat} (h:Hb caps l i j):i < j:=by have:=h.1.le; have:=h.2; omega
theorem Ydq {i j:Nat} (h:Reach caps l i j):i=j \/ ∃ k,i < k/\isE caps l i k/\Reach caps l k j:=by
 induction h with
 | refl=>exact .inl rfl
 | step h1 hk he ih =>
  rcases ih with rfl | ⟨k',h2,h3,h4⟩
  ·exact .inr ⟨_,hk,he,.refl _⟩
  ·exact .inr ⟨k',h2,h3,.step h4 hk he⟩
theorem Y6g (p:Nat->Bool) (k:Nat):(((List.range k).filter p).map fun i:Nat=>(i:Int)).length <= k:=by
 rw[List.length_map];have:=List.length_filter_le p (List.range k);simpa using this
def metP (caps:List Int) (l:List Ev) (j i k:Nat):Prop:=k=j \/ ∃ i',i <= i'/\k < i'/\isE caps l k i'/\Reach caps l i' j
noncomputable def rowB (n:Nat) (p:Nat->Prop):List Bool:=(List.range n).map fun k=>tB (p k)
theorem Yeh (n:Nat) (p:Nat->Prop):(rowB n p).length=n:=by unfold rowB; simp
theorem Yef {n:Nat} (p:Nat->Prop) {k:Nat} (h:k < n) (z:k < (rowB n p).length):(rowB n p)[k]=tB (p k):=by
 have:(rowB n p)[k]?=some (tB (p k)):=by
  unfold rowB;rw[List.getElem?_map,List.getElem?_range h]; rfl
 rw[List.getElem?_eq_getElem z] at this;exact Option.some.inj this
theorem Yei {n:Nat} (p:Nat->Prop) {k:Nat} (h:k < n):(rowB n p).set k true=rowB n (fun i=>p i \/ i=k):=by
 apply List.ext_getElem?
 intro i;rw[List.getElem?_set];unfold rowB;by_cases e:k=i
 ·subst e;rw[if_pos rfl,if_pos (by simpa using h),List.getElem?_map,List.getElem?_range h];simp only[Option.map_some];rw[tB_t (.inr trivial)]
 ·rw[if_neg e,List.getElem?_map,List.getElem?_map];by_cases hi:i < n
  ·rw[List.getElem?_range hi];simp only[Option.map_some];rw[tB_eq (p:=p i) (q:=p i \/ i=k) ⟨fun q=>.inl q,fun q=>q.resolve_right (fun z=>e z.symm)⟩]
  ·rw[List.getElem?_eq_none (by simp; omega)]; rfl
theorem Yeg {n:Nat} {p q:Nat->Prop} (h:∀ k,k < n->(p k ↔ q k)):rowB n p=rowB n q:=by
 unfold rowB;exact List.map_congr_left fun k hk=>tB_eq (h k (List.mem_range.1 hk))
theorem Yam (n j i:Nat) (p:Nat->Prop) (es:List Int) (he:es.length < 60000) (hes:∀ k ∈ es,0 <= k/\k < (n:Int)) :
  loop Z6g (caps,l,(j:Int),(i:Int),es,(es.length:Int),0,rowB n p)=some (caps,l,(j:Int),(i:Int),rowB n (fun k=>p k \/ (k:Int) ∈ es)):=by
 have key:=Y9y (f:=Z6g) es.length (fun t=>(caps,l,(j:Int),(i:Int),es,(es.length:Int),(t:Int),rowB n (fun k=>p k \/ (k:Int) ∈ es.take t))) (caps,l,(j:Int),(i:Int),rowB n (fun k=>p k \/ (k:Int) ∈ es)) (by
   intro t ht;have hb:=hes es[t] (List.getElem_mem ht);obtain ⟨q,hq⟩:∃ q:Nat,es[t]=q:=⟨es[t].toNat,by omega⟩
   have hqn:q < n:=by omega
   unfold Z6g;simp only;rw[bif_t (dT9 (by omega)),bif_t (Y86 ht),Yhe,getAtL _ ht,hq,bif_t (Y86 (by rw[Yeh]; exact hqn)),wrapI (by omega) (by omega),Yhe,Yei _ hqn]
   rw[Yeg (q:=fun k=>p k \/ (k:Int) ∈ es.take (t+1)) (fun k _=>by
    rw[<- List.take_append_getElem ht,List.mem_append,List.mem_singleton,hq];constructor
    ·rintro ((z | z) | z)
     ·exact .inl z
     ·exact .inr (.inl z)
     ·exact .inr (.inr (by omega))
    ·rintro (z | z | z)
     ·exact .inl (.inl z)
     ·exact .inl (.inr z)
     ·exact .inr (by omega))]
   rfl) (by
   unfold Z6g;simp only;rw[bif_f (dF9 (by omega)),List.take_length]) 0 (Nat.zero_le _)
 rw[<- key];congr 1;rw[Yeg (q:=fun k=>p k \/ (k:Int) ∈ es.take 0) (fun k _=>by simp)];rfl
theorem Y2j (hc:capsOK caps) (hG:GoodL caps l) (hl:l.length < 29000) (j:Nat) (hj:j < l.length):∀ i:Nat,i <= j+1 ->
  loop Z6m (caps,l,(j:Int),(i:Int) - 1,rowB l.length (metP caps l j i))=some ((j:Int),rowB l.length (metP caps l j 0))
 | 0,_=>by
  rw[Y9z];unfold Z6m;simp only;rw[bif_f (dF9 (by omega))]
 | i+1,hi=>by
  have hil:i < l.length:=by omega
  have hmi:metP caps l j (i+1) i ↔ Reach caps l i j:=by
   constructor
   ·rintro (z | ⟨i',h1,h2,h3,h4⟩)
    ·rw[z]; exact .refl _
    ·exact Reach.trans (.step (.refl _) h2 h3) h4
   ·intro h;rcases Ydq h with rfl | ⟨k,h1,h2,h3⟩
    ·exact .inl rfl
    ·exact .inr ⟨k,by omega,h1,h2,h3⟩
  rw[Y9z]
  have hf:Z6m (caps,l,(j:Int),((i+1:Nat):Int) - 1,rowB l.length (metP caps l j (i+1)))=some (.inl (caps,l,(j:Int),(i:Int) - 1,rowB l.length (metP caps l j i))):=by
   unfold Z6m;simp only;rw[show ((i+1:Nat):Int) - 1=(i:Int) by omega,bif_t (dT9 (by omega)),bif_t (Y86 (by rw[Yeh]; exact hil)),Yhe,getAtL _ (by rw[Yeh]; exact hil),Yef _ hil];by_cases hr:Reach caps l i j
   ·rw[tB_t (hmi.2 hr),Yc3 hc hG (by omega) hil];simp only[Bool.not_true,cond_false,bS9]
    rw[Yam l.length j i _ _ (by have:=Y5o caps l i; omega) (fun k hk=>by
     obtain ⟨q,rfl,h1,_⟩:=Y5q.1 hk;omega)]
    simp only[bS9]
    rw[wrapI (by omega) (by omega),Yeg (q:=metP caps l j i) (fun k _=>by
     rw[Y5q];constructor
     ·rintro ((z | ⟨i',h1,h2⟩) | ⟨q,z,h1,h2⟩)
      ·exact .inl z
      ·exact .inr ⟨i',by omega,h2⟩
      ·have z:k=q:=by omega
       subst z;exact .inr ⟨i,Nat.le_refl _,h1,h2,hr⟩
     ·rintro (z | ⟨i',h1,h2,h3,h4⟩)
      ·exact .inl (.inl z)
      ·by_cases e:i'=i
       ·subst e; exact .inr ⟨k,rfl,h2,h3⟩
       ·exact .inl (.inr ⟨i',by omega,h2,h3,h4⟩))]
   ·rw[tB_f (fun q=>hr (hmi.1 q))];simp only[Bool.not_false,cond_true]
    rw[wrapI (by omega) (by omega),Yeg (q:=metP caps l j i) (fun k _=>by
     constructor
     ·rintro (z | ⟨i',h1,h2⟩)
      ·exact .inl z
      ·exact .inr ⟨i',by omega,h2⟩
     ·rintro (z | ⟨i',h1,h2,h3,h4⟩)
      ·exact .inl z
      ·by_cases e:i'=i
       ·subst e; exact absurd h4 hr
       ·exact .inr ⟨i',by omega,h2,h3,h4⟩)]
  rw[hf];simp only;exact Y2j hc hG hl j hj i (by omega)
theorem Ycu (hc:capsOK caps) (hG:GoodL caps l) (hl:l.length < 29000) {j:Nat} (hj:j < l.length):Z20 (caps,l,(j:Int))=some (pastOf caps l j):=by
 have k4:=Y9y (f:=Z6k) l.length (fun t=>(caps,l,(j:Int),(l.length:Int),(t:Int),rowB t (fun _=>False))) (caps,l,(j:Int),rowB l.length (fun _=>False)) (by
   intro t ht;unfold Z6k;simp only;rw[bif_t (dT9 (by omega)),bif_t (Y6q.2 (by rw[Yeh]; simp only[List.length_cons,List.length_nil]; omega)),wrapI (by omega) (by omega)]
   have:rowB t (fun _=>False)++[false]=rowB (t+1) (fun _=>False):=by
    unfold rowB;rw[List.range_succ,List.map_append,List.map_cons,List.map_nil,tB_f (fun q=>q)]
   rw[this];rfl) (by
   unfold Z6k;simp only;rw[bif_f (dF9 (by omega))]) 0 (Nat.zero_le _)
 have h0:∀ i,i < j->(metP caps l j 0 i ↔ Hb caps l i j):=by
  intro i hi;constructor
  ·rintro (z | ⟨i',_,h2,h3,h4⟩)
   ·omega
   ·exact ⟨Reach.trans (.step (.refl _) h2 h3) h4,by omega⟩
  ·rintro ⟨h,h1⟩;rcases Ydq h with z | ⟨k,h2,h3,h4⟩
   ·exact absurd z h1
   ·exact .inr ⟨k,by omega,h2,h3,h4⟩
 have k19:=Y9y (f:=Z6i) j (fun t=>((j:Int),(t:Int),rowB l.length (metP caps l j 0),((List.range t).filter fun i=>tB (Hb caps l i j)).map fun i:Nat=>(i:Int))) (pastOf caps l j) (by
   intro t ht;have hb:=Y6g (fun i=>tB (Hb caps l i j)) t;unfold Z6i;simp only;rw[bif_t (dT9 (by omega)),bif_t (Y86 (by rw[Yeh]; omega)),Yhe,getAtL _ (by rw[Yeh]; omega),Yef _ (by omega),wrapI (by omega) (by omega),tB_eq (h0 t ht),Y6h _ ht];cases tB (Hb caps l t j) with
   | true=>rw[cond_true,bif_t (Y6q.2 (by simp only[List.length_cons,List.length_nil]; omega))]; rfl
   | false=>rw[cond_false,if_neg (by simp),List.append_nil]; rfl) (by
   unfold Z6i;simp only;rw[bif_f (dF9 (by omega))]; rfl) 0 (Nat.zero_le _)
 unfold Z20;simp only;rw[show loop Z6k (caps,l,(j:Int),((l.length:Nat):Int),0,[])=_ from k4];simp only[bS9];rw[bif_t (Y86 (by rw[Yeh]; exact hj)),Yhe,Yei _ hj];have hb:=Y2j hc hG hl j hj (j+1) (Nat.le_refl _);rw[show ((j+1:Nat):Int) - 1=(j:Int) by omega] at hb
 rw[Yeg (q:=metP caps l j (j+1)) (fun k _=>by
  constructor
  ·rintro (z | z)
   ·exact z.elim
   ·exact .inl z
  ·rintro (z | ⟨i',h1,h2,h3,h4⟩)
   ·exact .inr z
   ·have:=h4.le; omega),hb]
 simp only[bS9];rw[show loop Z6i ((j:Int),0,rowB l.length (metP caps l j 0),[])=_ from k19];rfl
theorem Y2m (hc:capsOK caps) (hG:GoodL caps l) (hl:l.length < 29000) {i j:Nat} (hj:j < l.length):Z1y (caps,l,(i:Int),(j:Int))=some (tB (Hb caps l i j)):=by
 have hlen:=Ycs caps l j;unfold Z1y;simp only;rw[Ycu hc hG hl hj];simp only[bS9]
 have hf:=Ya0 (f:=Z6e) (pastOf caps l j) (fun x=>x == (i:Int)) (fun t=>((i:Int),pastOf caps l j,((pastOf caps l j).length:Int),(t:Int))) (fun _=>.inl true) (.inr ()) (by
   intro t ht;unfold Z6e;simp only;rw[bif_t (dT9 (by omega)),bif_t (Y86 ht),Yhe,getAtL _ ht,wrapI (by omega) (by omega)];cases ((pastOf caps l j)[t] == (i:Int)) <;> rfl) (by
   unfold Z6e;simp only;rw[bif_f (dF9 (by omega))])
 rw[show loop Z6e ((i:Int),pastOf caps l j,(((pastOf caps l j).length:Nat):Int),0)=_ from hf];cases hfi:(pastOf caps l j).findIdx? (fun x=>x == (i:Int)) with
 | none =>
  have h:=List.findIdx?_eq_none_iff.1 hfi;simp only[bS9];rw[tB_f];intro q;have:=h i (Yct.2 ⟨i,rfl,q.lt,q⟩);simp at this
 | some k =>
  obtain ⟨h1,h2,_⟩:=List.findIdx?_eq_some_iff_getElem.1 hfi;simp only[bS9];have h3:(pastOf caps l j)[k]=(i:Int):=by simpa using h2
  obtain ⟨q,e,_,hq⟩:=Yct.1 (List.getElem_mem h1);rw[h3] at e;obtain rfl:i=q:=by omega
  rw[tB_t hq]
theorem Y1w (hc:capsOK caps) (hG:GoodL caps l) (hl:l.length < 29000) {i j:Nat} (hi:i < l.length) (hj:j < l.length):Z1w (caps,l,(i:Int),(j:Int))=some (tB (¬ Reach caps l i j/\¬ Reach caps l j i)):=by
 unfold Z1w;simp only;by_cases e:i=j
 ·rw[bif_f (by simp[e]),tB_f (fun q=>q.1 (by rw[e]; exact .refl _))]
 rw[bif_t (bne_iff_ne.2 (by omega)),Y2m hc hG hl hj];simp only[bS9];by_cases a:Reach caps l i j
 ·rw[tB_t (p:=Hb caps l i j) ⟨a,e⟩,tB_f (fun q=>q.1 a)]; rfl
 ·rw[tB_f (p:=Hb caps l i j) (fun q=>a q.1),Y2m hc hG hl hi];simp only[Bool.not_false,cond_true,bS9];by_cases b:Reach caps l j i
  ·rw[tB_t (p:=Hb caps l j i) ⟨b,fun q=>e q.symm⟩,tB_f (fun q=>q.2 b)]; rfl
  ·rw[tB_f (p:=Hb caps l j i) (fun q=>b q.1),tB_t ⟨a,b⟩]; rfl
end
set_option maxHeartbeats 1000000
theorem goodP {caps:List Int} {l:List Ev} {e:Ev} (hs:shapeE l e) (k0:e.2.1 ≠ 0) (hl:lastE e.1 l 0 ≠ 0) (hN:e.2.2.2.1=0) (ho:e.2.1 ≠ 1->0 <= e.2.2.1/\e.2.2.1 < objK caps e.2.1) (hb:¬ begK e.2.1) (hS:e.2.2.2.2=-1) (hr:ruleE caps l e):goodE caps l e:=by
 refine ⟨hs,?_⟩;rw[if_neg k0];refine ⟨hl,fun _=>hN,ho,?_,hr⟩;unfold fromE;rw[if_neg hb]; exact hS
section
variable {caps:List Int} {l:List Ev}
end
set_option maxHeartbeats 1000000
def conf (a b:Ev):Prop:=(16 <= a.2.1/\16 <= b.2.1)/\a.2.2.1=b.2.2.1/\(a.2.1=17 \/ b.2.1=17)
def Rs (caps:List Int) (l:List Ev) (i j:Nat):Prop:=conf (getE l i) (getE l j)/\¬ Reach caps l i j/\¬ Reach caps l j i
section
variable {caps:List Int} {l:List Ev}
theorem Rs.symm {i j:Nat} (h:Rs caps l i j):Rs caps l j i:=⟨⟨⟨h.1.1.2,h.1.1.1⟩,h.1.2.1.symm,h.1.2.2.symm⟩,h.2.2,h.2.1⟩
theorem Rs.ne {i:Nat}:¬ Rs caps l i i:=fun h=>h.2.1 (.refl _)
theorem Y92 (hG:GoodL caps l) {i:Nat} (h:i < l.length):(getE l i).2.1 <= 17:=by rw[Y7m h]; exact (hG i h).1.2.2.2.1
theorem var_in (hG:GoodL caps l) {i:Nat} (h:i < l.length) (hk:16 <= (getE l i).2.1):0 <= (getE l i).2.2.1/\(getE l i).2.2.1 < 4:=by
 have h17:=Y92 hG h;rw[Y7m h] at *;have:=(hG i h).2;rw[if_neg (by omega)] at this;have h2:=this.2.2.1 (by omega);unfold objK at h2;rw[if_neg (by omega),if_neg (by omega),if_pos (by omega)] at h2;exact h2
theorem Y8p (e:Ev):Z2o e=some (tB (e.2.1=16 \/ e.2.1=17)):=by
 unfold Z2o;by_cases h:e.2.1=16
 ·rw[bif_t (beq_iff_eq.2 h),tB_t (.inl h)]
 ·rw[bif_f (beq_eq_false_iff_ne.2 h),Yh0];exact Yg8 ⟨.inr,fun q=>q.resolve_left h⟩
theorem Y4m (a b:Ev):Z28 (a,b)=some (tB (conf a b)):=by
 unfold Z28;simp only;by_cases h1:a.2.1 ≥ 16
 ·rw[bif_t (dT9 h1)];by_cases h2:b.2.1 ≥ 16
  ·rw[bif_t (dT9 h2)];by_cases h3:a.2.2.1=b.2.2.1
   ·rw[bif_t (beq_iff_eq.2 h3)];by_cases h4:a.2.1=17
    ·rw[bif_t (beq_iff_eq.2 h4),tB_t ⟨⟨h1,h2⟩,h3,.inl h4⟩]
    ·rw[bif_f (beq_eq_false_iff_ne.2 h4),Yh0];exact Yg8 ⟨fun q=>⟨⟨h1,h2⟩,h3,.inr q⟩,fun q=>q.2.2.resolve_left h4⟩
   ·rw[bif_f (beq_eq_false_iff_ne.2 h3),tB_f (fun q=>h3 q.2.1)]
  ·rw[bif_f (dF9 h2),tB_f (fun q=>h2 q.1.2)]
 ·rw[bif_f (dF9 h1),tB_f (fun q=>h1 q.1.1)]
theorem Ydu (hc:capsOK caps) (hG:GoodL caps l) (hl:l.length < 29000) {i j:Nat} (hi:i < l.length) (hj:j < l.length):Z24 (caps,l,(i:Int),(j:Int))=some (tB (Rs caps l i j)):=by
 unfold Z24;simp only;rw[bif_t (Y86 hi),bif_t (Y86 hj),Y7l,Y7l,Y4m,Y1w hc hG hl hi hj];simp only[bS9];by_cases h:conf (getE l i) (getE l j)
 ·rw[tB_t h];exact Yg8 ⟨fun q=>⟨h,q⟩,fun q=>q.2⟩
 ·rw[tB_f h,tB_f (p:=Rs caps l i j) (fun q=>h q.1)]; rfl
theorem own_of (hG:GoodL caps l) (hl:l.length < 29000) {i:Nat} (hi:i < l.length):Z2q (getE l i,clk caps l i)=some ((ownN l i:Nat):Int):=by
 obtain ⟨g1,g2,g3⟩:=gor_of hG hi;have hk1:=tk_K (caps:=caps) hG hi;have htk:=tk_le (l:=l) (i:=i)
 have hps:1 <= tk l i:=by
  unfold tk;rw[Y3f hi,if_pos (g3.trans g1.symm)]; omega
 have hlen:(getE l i).1.toNat < (clk caps l i).length:=by
  refine Classical.byContradiction fun q=>?_
  have:Kq caps l i (getE l i).1.toNat=0:=by unfold Kq atC; rw[List.getD_eq_getElem?_getD,List.getElem?_eq_none (by omega)]; rfl
  omega
 have hai:getAt (0:Int) (clk caps l i) (getE l i).1.toNat=((tk l i:Nat):Int):=by
  rw[Y7i,<- hk1]; rfl
 unfold Z2q ownN;simp only;rw[g1,bif_t (Y86 hlen),Yhe,hai,Ycn _ _ (by omega) (by omega)];rfl
theorem Y94 (hG:GoodL caps l) (hl:l.length < 29000) {i j:Nat} (hi:i < l.length) (hj:j < l.length):Ze (((ownN l i:Nat):Int),clk caps l j)=some (tB (Reach caps l i j),0):=by
 obtain ⟨g1,g2,g3⟩:=gor_of hG hi;have hk1:=tk_K (caps:=caps) hG hi;have htk:=tk_le (l:=l) (i:=i);have hkn:=Y96 (caps:=caps) hG hi hj;rw[hk1] at hkn;have hkn:((tk l i:Nat):Int) <= atC (clk caps l j) (getE l i).1.toNat ↔ Reach caps l i j:=hkn;unfold ownN;rw[Y95 _ _ (by omega) (by omega) _ (clk_rc (by omega)),tB_dec,tB_eq hkn]
noncomputable def accO (l:List Ev) (m:Nat):Int × Int:=if m=0 then (0,0) else (((ownN l (m - 1):Nat):Int),(m:Int))
theorem Y1x (hG:GoodL caps l) (hl:l.length < 29000) {m j:Nat} (hm:m <= l.length) (hj:j < l.length):Z2m (accO l m,clk caps l j)=some (tB (m ≠ 0/\¬ Reach caps l (m - 1) j)):=by
 unfold Z2m accO;simp only;by_cases h:m=0
 ·rw[if_pos h,tB_f (fun q=>q.1 h)]; rfl
 ·rw[if_neg h,bif_f (beq_eq_false_iff_ne.2 (by show (m:Int) ≠ 0; omega)),Y94 hG hl (show m - 1 < l.length by omega) hj];simp only[bS9];rw[tB_not];exact Yg8 ⟨fun q=>⟨h,q⟩,fun q=>q.2⟩
theorem Ydg (hG:GoodL caps l) (hl:l.length < 29000) {i j:Nat} (hij:i <= j) (hj:j < l.length):Z2s (Y3w caps l l.length,l,(i:Int),(j:Int))=some (tB (Rs caps l i j)):=by
 have hi:i < l.length:=by omega
 have hL:(Y3w caps l l.length).length=l.length:=Y3z _ _ _;have k1:=Y92 hG hi;have k2:=Y92 hG hj;unfold Z2s;simp only;rw[bif_t (Y86 hi),bif_t (Y86 hj),Y7l,Y7l,Y8p,Y8p];simp only[bS9,Yhe];by_cases a1:(getE l i).2.1=16 \/ (getE l i).2.1=17
 case neg=>rw[tB_f a1,tB_f (p:=Rs caps l i j) (fun q=>a1 (by have:=q.1.1.1; omega))]; rfl
 by_cases a2:(getE l j).2.1=16 \/ (getE l j).2.1=17
 case neg=>rw[tB_t a1,tB_f a2,tB_f (p:=Rs caps l i j) (fun q=>a2 (by have:=q.1.1.2; omega))]; rfl
 rw[tB_t a1,tB_t a2,bif_f (by rfl),bif_f (by rfl)];by_cases a3:(getE l i).2.2.1=(getE l j).2.2.1
 case neg=>rw[bif_t (bne_iff_ne.2 a3),tB_f (p:=Rs caps l i j) (fun q=>a3 q.1.2.1)]
 rw[bif_f (bne_eq_false_iff_eq.2 a3)]
 have fin:((getE l i).2.1=17 \/ (getE l j).2.1=17)->(bif inb (i:Int) (Y3w caps l l.length).length then (Z2q (getE l i,getAt [] (Y3w caps l l.length) i)).bind fun r8=>bif inb (j:Int) (Y3w caps l l.length).length then (Z2m ((r8,1),getAt [] (Y3w caps l l.length) j)).bind fun r9=>some r9 else none else none)=some (tB (Rs caps l i j)):=by
  intro hw;rw[bif_t (Y86 (by omega)),getAtL _ (show i < (Y3w caps l l.length).length by omega),getAtL _ (show j < (Y3w caps l l.length).length by omega),Y3v hi,Y3v hj,own_of hG hl hi];simp only[bS9];rw[bif_t (Y86 (by omega))];unfold Z2m;simp only;rw[bif_f (by rfl),Y94 hG hl hi hj];simp only[bS9];rw[tB_not];refine Yg8 ⟨fun q=>⟨⟨⟨by omega,by omega⟩,a3,hw⟩,q,fun z=>?_⟩,fun q=>q.2.1⟩;have:=z.le;obtain rfl:i=j:=by omega
  exact q (.refl _)
 by_cases a4:(getE l i).2.1=16
 ·rw[bif_t (beq_iff_eq.2 a4)];by_cases a5:(getE l j).2.1=16
  ·rw[bif_t (beq_iff_eq.2 a5),tB_f (p:=Rs caps l i j) (fun q=>by have:=q.1.2.2; omega)]
  ·rw[bif_f (beq_eq_false_iff_ne.2 a5)];exact fin (by omega)
 ·rw[bif_f (beq_eq_false_iff_ne.2 a4)];exact fin (by omega)
theorem Yy (hc:capsOK caps) (hG:GoodL caps l) (hl:l.length < 29000) (i j:Int):Z2i (caps,l,i,j)=some (if (0 <= i/\i < l.length)/\0 <= j/\j < l.length then (tB (Rs caps l i.toNat j.toNat),0) else (false,3)):=by
 unfold Z2i;simp only;rw[Ygo hc hG hl];simp only[bS9];rw[bif_f (by rfl)];by_cases h:(0 <= i/\i < l.length)/\0 <= j/\j < l.length
 ·rw[if_pos h,bif_f (dF9 (by omega)),bif_f (dF9 (by omega)),bif_f (dF9 (by omega)),bif_f (dF9 (by omega))];obtain ⟨a,rfl⟩:∃ a:Nat,i=a:=⟨i.toNat,by omega⟩
  obtain ⟨b,rfl⟩:∃ b:Nat,j=b:=⟨j.toNat,by omega⟩
  simp only[Int.toNat_natCast];by_cases q:a <= b
  ·rw[show Min.min (a:Int) (b:Int)=(a:Int) by omega,show Max.max (a:Int) (b:Int)=(b:Int) by omega,Ydg hG hl q (by omega)]; rfl
  ·rw[show Min.min (a:Int) (b:Int)=(b:Int) by omega,show Max.max (a:Int) (b:Int)=(a:Int) by omega,Ydg hG hl (by omega) (by omega),tB_eq (show Rs caps l b a ↔ Rs caps l a b from ⟨Rs.symm,Rs.symm⟩)]; rfl
 ·rw[if_neg h];by_cases h1:i < 0
  ·rw[bif_t (dT9 h1)]
  rw[bif_f (dF9 h1)];by_cases h2:i ≥ l.length
  ·rw[bif_t (dT9 h2)]
  rw[bif_f (dF9 h2)];by_cases h3:j < 0
  ·rw[bif_t (dT9 h3)]
  rw[bif_f (dF9 h3),bif_t (dT9 (by omega))]
theorem Ydf (hn:caps.length < 30000) (hl:l.length < 29000) (h:¬ (capsOK caps/\GoodL caps l)):(∀ i j,Z2i (caps,l,i,j)=some (false,1))/\Z2g (caps,l)=some ((0,0,0),1)/\Z2k (caps,l)=some ([],1):=by
 have hb:=Ygn hn hl h;refine ⟨fun i j=>?_,?_,?_⟩
 ·unfold Z2i;simp only;rw[hb]; rfl
 ·unfold Z2g;simp only;rw[hb]; rfl
 ·unfold Z2k;simp only;rw[hb]; rfl
end
set_option maxHeartbeats 1000000
theorem Y8d (v:Int) (o:List Int) (ho:o.length < 60000):Z39 (v,o)=some (tB (v ∈ o),o):=by
 have key:=Ya0 (f:=Z7i) o (fun a=>v == a) (fun m=>(v,(o.length:Int),(m:Int),o)) (fun m=>.inl ((m:Int),o)) (.inr o) (by
   intro m hm;unfold Z7i;simp only;rw[bif_t (dT9 (by omega)),bif_t (Y86 hm),Yhe,getAtL _ hm,wrapI (by omega) (by omega)];by_cases q:(v == o[m])=true
   ·rw[q]; rfl
   ·rw[Bool.not_eq_true] at q; rw[q]; rfl) (by
   unfold Z7i;simp only;rw[bif_f (dF9 (by omega))])
 unfold Z39 Z3l;simp only;rw[show loop Z7i (v,((o.length:Nat):Int),0,o)=_ from key];simp only[bS9];cases e:o.findIdx? (fun a=>v == a) with
 | some m =>
  have h:v ∈ o:=by
   refine Classical.byContradiction fun h=>?_
   rw[List.findIdx?_eq_none_iff.2 (fun x hx=>beq_eq_false_iff_ne.2 (fun (q:v=x)=>h (by rw[q]; exact hx)))] at e;cases e
  rw[tB_t h];simp only[bS9];rw[dT9 (by omega)]
 | none =>
  have h:¬ v ∈ o:=fun h=>by
   have:=List.findIdx?_eq_none_iff.1 e v h;simp at this
  rw[tB_f h];rfl
noncomputable def addR (o:List Int) (v:Int):List Int:=if v ∈ o then o else o++[v]
theorem Y1j (o:List Int) (v x:Int):x ∈ addR o v ↔ x ∈ o \/ x=v:=by
 unfold addR;by_cases h:v ∈ o
 ·rw[if_pos h]; exact ⟨.inl,fun q=>q.elim id fun e=>e ▸ h⟩
 ·rw[if_neg h]; simp
theorem Y1k {o:List Int} (h:o.Nodup) (v:Int):(addR o v).Nodup:=by
 unfold addR;by_cases q:v ∈ o
 ·rw[if_pos q]; exact h
 ·rw[if_neg q,List.nodup_append];refine ⟨h,by simp,fun a ha b hb e=>q ?_⟩;rw[List.mem_singleton.1 hb] at e;exact e ▸ ha
section
variable (caps:List Int) (l:List Ev)
noncomputable def outI (j:Nat) (o:List Int):Nat->List Int
 | 0=>o
 | i+1=>if tB (Rs caps l i j)=true then addR (outI j o i) (getE l j).2.2.1 else outI j o i
noncomputable def outJ:Nat->List Int
 | 0=>[]
 | j+1=>outI caps l j (outJ j) j
def RV (n:Nat) (v:Int):Prop:=∃ j,j < n/\∃ i,i < j/\Rs caps l i j/\(getE l j).2.2.1=v
noncomputable def racyOf:List Int:=((List.range 4).filter fun v:Nat=>tB (RV caps l l.length (v:Int))).map fun v:Nat=>(v:Int)
variable {caps l}
theorem Ycg (j:Nat) (o:List Int):∀ i,outI caps l j o i=o \/ outI caps l j o i=addR o (getE l j).2.2.1
 | 0=>.inl rfl
 | i+1=>by
  unfold outI;by_cases h:tB (Rs caps l i j)=true
  ·rw[if_pos h];rcases Ycg j o i with q | q
   ·rw[q]; exact .inr rfl
   ·rw[q];refine .inr ?_;rw[addR,if_pos ((Y1j _ _ _).2 (.inr rfl))]
  ·rw[if_neg h]; exact Ycg j o i
theorem Ycf (j:Nat) (o:List Int) (x:Int):∀ i,x ∈ outI caps l j o i ↔ x ∈ o \/ ∃ k,k < i/\Rs caps l k j/\(getE l j).2.2.1=x
 | 0=>⟨.inl,fun q=>q.elim id fun ⟨k,h,_⟩=>absurd h (Nat.not_lt_zero _)⟩
 | i+1=>by
  unfold outI;by_cases h:Rs caps l i j
  ·rw[if_pos (tB_t h),Y1j,Ycf j o x i];constructor
   ·rintro ((q | ⟨k,q1,q2⟩) | q)
    ·exact .inl q
    ·exact .inr ⟨k,by omega,q2⟩
    ·exact .inr ⟨i,by omega,h,q.symm⟩
   ·rintro (q | ⟨k,q1,q2,q3⟩)
    ·exact .inl (.inl q)
    ·exact .inr q3.symm
  ·rw[if_neg (fun z=>h (Yh3.1 z)),Ycf j o x i];constructor
   ·rintro (q | ⟨k,q1,q2⟩)
    ·exact .inl q
    ·exact .inr ⟨k,by omega,q2⟩
   ·rintro (q | ⟨k,q1,q2,q3⟩)
    ·exact .inl q
    ·by_cases e:k=i
     ·exact absurd (e ▸ q2) h
     ·exact .inr ⟨k,by omega,q2,q3⟩
theorem Y1i (o:List Int) (v:Int):(addR o v).length <= o.length+1:=by
 unfold addR;by_cases h:v ∈ o
 ·rw[if_pos h]; omega
 ·rw[if_neg h]; simp
theorem Yce (j:Nat) (o:List Int) (i:Nat):(outI caps l j o i).length <= o.length+1:=by
 rcases Ycg (caps:=caps) (l:=l) j o i with q | q
 ·rw[q]; omega
 ·rw[q]; exact Y1i _ _
theorem Ych:∀ j,(outJ caps l j).length <= j
 | 0=>Nat.le_refl _
 | j+1=>by
  have:=Ych j;have:=Yce (caps:=caps) (l:=l) j (outJ caps l j) j;unfold outJ;omega
theorem Ycj:∀ j,(outJ caps l j).Nodup
 | 0=>List.nodup_nil
 | j+1=>by
  have h:=Ycj j;unfold outJ;rcases Ycg (caps:=caps) (l:=l) j (outJ caps l j) j with q | q
  ·rw[q]; exact h
  ·rw[q]; exact Y1k h _
theorem Yci (x:Int):∀ n,x ∈ outJ caps l n ↔ RV caps l n x
 | 0=>⟨fun h=>absurd h List.not_mem_nil,fun ⟨j,h,_⟩=>absurd h (Nat.not_lt_zero _)⟩
 | n+1=>by
  unfold outJ;rw[Ycf,Yci x n];constructor
  ·rintro (⟨j,h1,h2⟩ | ⟨k,h1,h2,h3⟩)
   ·exact ⟨j,by omega,h2⟩
   ·exact ⟨n,by omega,k,h1,h2,h3⟩
  ·rintro ⟨j,h1,k,h2,h3,h4⟩;by_cases e:j=n
   ·subst e; exact .inr ⟨k,h2,h3,h4⟩
   ·exact .inl ⟨j,by omega,k,h2,h3,h4⟩
theorem Ydi (hG:GoodL caps l) (x:Int):x ∈ racyOf caps l ↔ RV caps l l.length x:=by
 unfold racyOf;rw[List.mem_map];constructor
 ·rintro ⟨v,hv,rfl⟩;exact Yh3.1 (List.mem_filter.1 hv).2
 ·rintro ⟨j,h1,i,h2,h3,h4⟩;have:=var_in hG h1 h3.1.1.2;have e:x=(x.toNat:Int):=by omega
  exact ⟨x.toNat,List.mem_filter.2 ⟨List.mem_range.2 (by omega),tB_t ⟨j,h1,i,h2,h3,by omega⟩⟩,e.symm⟩
theorem Ydh:(racyOf caps l).Pairwise (· < ·):=by
 unfold racyOf;rw[List.pairwise_map];refine List.Pairwise.imp (fun {a b} (h:a < b)=>?_) (List.Pairwise.filter _ List.pairwise_lt_range);omega
theorem Ydj (hG:GoodL caps l):Yge (outJ caps l l.length) 0 (outJ caps l l.length).length=racyOf caps l:=by
 rw[Ygf];refine Y63 _ _ ?_ Ydh fun x=>by rw[Ygb,Yci,Ydi hG]
 have h1:=Yg9 (outJ caps l l.length)
 have h2:(sortI (outJ caps l l.length)).Nodup:=by
  unfold sortI;exact (List.mergeSort_perm _ _).nodup_iff.2 (Ycj _)
 exact (h1.and h2).imp fun {a b} ⟨p,q⟩=>by omega
theorem Yz (hc:capsOK caps) (hG:GoodL caps l) (hl:l.length < 29000):Z2k (caps,l)=some (racyOf caps l,0):=by
 have inner:∀ j,j < l.length->loop Z74 (l,Y3w caps l l.length,(j:Int),(l.length:Int),(j:Int),(j:Int),0,outJ caps l j)=some (l,Y3w caps l l.length,(l.length:Int),(j:Int),outJ caps l (j+1)):=by
  intro j hj;have h0:=Ych (caps:=caps) (l:=l) j
  exact Y9y (f:=Z74) j (fun i=>(l,Y3w caps l l.length,(j:Int),(l.length:Int),(j:Int),(j:Int),(i:Int),outI caps l j (outJ caps l j) i)) (l,Y3w caps l l.length,(l.length:Int),(j:Int),outJ caps l (j+1)) (by
    intro i hi;have hlen:=Yce (caps:=caps) (l:=l) j (outJ caps l j) i;unfold Z74;simp only;rw[bif_t (dT9 (by omega)),Ydg hG hl (by omega) hj,wrapI (by omega) (by omega)];simp only[bS9];by_cases h:Rs caps l i j
    ·rw[tB_t h,bif_t rfl,bif_t (Y86 hj),Y7l,Y8d _ _ (by omega)];simp only[bS9];rw[bif_t (Y86 hj),bif_t (Y6q.2 (by simp; omega))];show _=some (Sum.inl (l,Y3w caps l l.length,(j:Int),(l.length:Int),(j:Int),(j:Int),((i+1:Nat):Int),if tB (Rs caps l i j)=true then addR (outI caps l j (outJ caps l j) i) (getE l j).2.2.1 else outI caps l j (outJ caps l j) i));rw[if_pos (tB_t h),addR];by_cases q:(getE l j).2.2.1 ∈ outI caps l j (outJ caps l j) i
     ·rw[tB_t q,if_pos q]; rfl
     ·rw[tB_f q,if_neg q]; rfl
    ·rw[tB_f h,bif_f rfl];show _=some (Sum.inl (l,Y3w caps l l.length,(j:Int),(l.length:Int),(j:Int),(j:Int),((i+1:Nat):Int),if tB (Rs caps l i j)=true then addR (outI caps l j (outJ caps l j) i) (getE l j).2.2.1 else outI caps l j (outJ caps l j) i));rw[if_neg (fun z=>h (Yh3.1 z))];rfl) (by
    unfold Z74;simp only;rw[bif_f (dF9 (by omega))];rfl) 0 (Nat.zero_le _)
 have key:=Y9y (f:=Z76) l.length (fun j=>(l,Y3w caps l l.length,(l.length:Int),(j:Int),outJ caps l j)) (outJ caps l l.length) (by
   intro j hj;unfold Z76;simp only;rw[bif_t (dT9 (by omega)),inner j hj];simp only[bS9];rw[wrapI (by omega) (by omega)];rfl) (by
   unfold Z76;simp only;rw[bif_f (dF9 (by omega))]) 0 (Nat.zero_le _)
 have h0:=Ych (caps:=caps) (l:=l) l.length;unfold Z2k;simp only;rw[Ygo hc hG hl];simp only[bS9];rw[bif_f (by rfl),show loop Z76 (l,Y3w caps l l.length,((l.length:Nat):Int),0,[])=_ from key];simp only[bS9];rw[bif_t (Y6q.2 (by omega)),Ydj hG]
theorem Ydv (hc:capsOK caps) (hG:GoodL caps l) (hl:l.length < 29000):Z26 (caps,l)=some (racyOf caps l):=by
 have i11:∀ (v j:Nat) (S:Prop) (out:List Int),j < l.length->loop Z6o (caps,l,(v:Int),tB S,(j:Int),0,(l.length:Int),(j:Int),out)=some (caps,l,(v:Int),tB (S \/ ∃ i,i < j/\Rs caps l i j/\(getE l j).2.2.1=(v:Int)),(l.length:Int),(j:Int),out):=by
  intro v j S out hj;by_cases hv:(getE l j).2.2.1=(v:Int)
  case neg =>
   rw[show (S \/ ∃ i,i < j/\Rs caps l i j/\(getE l j).2.2.1=(v:Int))=S from propext ⟨fun q=>q.elim id fun ⟨_,_,_,z⟩=>absurd z hv,.inl⟩,Y9z]
   have:Z6o (caps,l,(v:Int),tB S,(j:Int),0,(l.length:Int),(j:Int),out)=some (.inr (caps,l,(v:Int),tB S,(l.length:Int),(j:Int),out)):=by
    unfold Z6o;simp only;by_cases h0:(0:Int) < (j:Int)
    ·rw[bif_t (dT9 h0),bif_t (Y86 hj),Y7l,bif_f (beq_eq_false_iff_ne.2 hv)]
    ·rw[bif_f (dF9 h0)]
   rw[this]
  have key:=Y9y (f:=Z6o) j (fun i=>(caps,l,(v:Int),tB (S \/ ∃ k,k < i/\Rs caps l k j/\(getE l j).2.2.1=(v:Int)),(j:Int),(i:Int),(l.length:Int),(j:Int),out)) (caps,l,(v:Int),tB (S \/ ∃ i,i < j/\Rs caps l i j/\(getE l j).2.2.1=(v:Int)),(l.length:Int),(j:Int),out) (by
    intro i hi;unfold Z6o;simp only;rw[bif_t (dT9 (by omega)),bif_t (Y86 hj),Y7l,bif_t (beq_iff_eq.2 hv),Ydu hc hG hl (by omega) hj,wrapI (by omega) (by omega)];by_cases q:S \/ ∃ k,k < i/\Rs caps l k j/\(getE l j).2.2.1=(v:Int)
    ·rw[tB_t q,tB_t (p:=S \/ ∃ k,k < i+1/\Rs caps l k j/\(getE l j).2.2.1=(v:Int)) (q.elim .inl fun ⟨k,z,w⟩=>.inr ⟨k,by omega,w⟩)]; rfl
    ·rw[tB_f q,tB_eq (show Rs caps l i j ↔ S \/ ∃ k,k < i+1/\Rs caps l k j/\(getE l j).2.2.1=(v:Int) from ⟨fun z=>.inr ⟨i,by omega,z,hv⟩,fun z=>z.elim (fun s=>absurd (.inl s) q) fun ⟨k,k1,k2⟩=>by
      by_cases e:k=i
      ·exact e ▸ k2.1
      ·exact absurd (.inr ⟨k,by omega,k2⟩) q⟩)]; rfl) (by
    unfold Z6o;simp only;rw[bif_f (dF9 (by omega))]) 0 (Nat.zero_le _)
  rw[show (S \/ ∃ k,k < 0/\Rs caps l k j/\(getE l j).2.2.1=(v:Int))=S from propext ⟨fun q=>q.elim id fun ⟨k,h,_⟩=>absurd h (Nat.not_lt_zero _),.inl⟩] at key;exact key
 have i8:∀ (v:Nat) (out:List Int),loop Z6s (caps,l,(v:Int),false,(l.length:Int),0,out)=some (caps,l,(v:Int),tB (RV caps l l.length v),out):=by
  intro v out
  have key:=Y9y (f:=Z6s) l.length (fun j=>(caps,l,(v:Int),tB (RV caps l j v),(l.length:Int),(j:Int),out)) (caps,l,(v:Int),tB (RV caps l l.length v),out) (by
    intro j hj;unfold Z6s;simp only;rw[bif_t (dT9 (by omega)),i11 v j _ out hj];simp only[bS9];rw[wrapI (by omega) (by omega),tB_eq (show (RV caps l j v \/ ∃ i,i < j/\Rs caps l i j/\(getE l j).2.2.1=(v:Int)) ↔ RV caps l (j+1) v from ?_)]
    ·rfl
    ·constructor
     ·rintro (⟨k,h1,h2⟩ | h)
      ·exact ⟨k,by omega,h2⟩
      ·exact ⟨j,by omega,h⟩
     ·rintro ⟨k,h1,h2⟩;by_cases e:k=j
      ·subst e; exact .inr h2
      ·exact .inl ⟨k,by omega,h2⟩) (by
    unfold Z6s;simp only;rw[bif_f (dF9 (by omega))]) 0 (Nat.zero_le _)
  rw[show tB (RV caps l 0 v)=false from tB_f fun ⟨_,h,_⟩=>absurd h (Nat.not_lt_zero _)] at key;exact key
 have key:=Y9y (f:=Z6q) 4 (fun v=>(caps,l,(v:Int),((List.range v).filter fun v:Nat=>tB (RV caps l l.length (v:Int))).map fun v:Nat=>(v:Int))) (racyOf caps l) (by
   intro v hv
   have hf:(((List.range v).filter fun v:Nat=>tB (RV caps l l.length (v:Int))).map fun v:Nat=>(v:Int)).length <= v:=by
    rw[List.length_map];have:=List.length_filter_le (fun v:Nat=>tB (RV caps l l.length (v:Int))) (List.range v);simpa using this
   unfold Z6q;simp only;rw[bif_t (dT9 (by omega)),i8];simp only[bS9];rw[wrapI (by omega) (by omega),List.range_succ,List.filter_append,List.map_append,bif_t (Y6q.2 (by simp only[List.length_cons,List.length_nil]; omega))];by_cases q:RV caps l l.length v
   ·rw[tB_t q,bif_t rfl,List.filter_cons_of_pos (p:=fun v:Nat=>tB (RV caps l l.length (v:Int))) (tB_t q)]; rfl
   ·rw[tB_f q,bif_f rfl,List.filter_cons_of_neg (p:=fun v:Nat=>tB (RV caps l l.length (v:Int))) (fun z=>q (Yh3.1 z))];simp) (by
   unfold Z6q;simp only;rw[bif_f (dF9 (by omega))];rfl) 0 (Nat.zero_le _)
 unfold Z26;simp only;rw[show loop Z6q (caps,l,0,[])=_ from key];rfl
end
set_option maxHeartbeats 1000000
noncomputable def lst (P:Nat->Prop):Nat->Nat
 | 0=>0
 | n+1=>if tB (P n)=true then n+1 else lst P n
theorem lst_s (P:Nat->Prop) (n:Nat):lst P (n+1)=if tB (P n)=true then n+1 else lst P n:=rfl
theorem lst_le (P:Nat->Prop):∀ n,lst P n <= n
 | 0=>Nat.le_refl _
 | n+1=>by
  have:=lst_le P n;rw[lst_s];split <;> omega
theorem lst_at (P:Nat->Prop):∀ n,lst P n ≠ 0->P (lst P n - 1)
 | 0,h=>absurd rfl h
 | n+1,h=>by
  rw[lst_s] at *;by_cases q:P n
  ·rw[if_pos (tB_t q)]; exact q
  ·rw[if_neg (fun z=>q (Yh3.1 z))] at *; exact lst_at P n h
theorem lst_ge (P:Nat->Prop):∀ n i,i < n->P i->i < lst P n
 | 0,i,h,_=>absurd h (Nat.not_lt_zero _)
 | n+1,i,h,hp=>by
  rw[lst_s];by_cases q:P n
  ·rw[if_pos (tB_t q)]; exact h
  ·rw[if_neg (fun z=>q (Yh3.1 z))];exact lst_ge P n i (by have:i ≠ n:=fun e=>q (e ▸ hp); omega) hp
theorem Y7f {α β:Type} (c:α->Bool) (f:α->β):∀ L:List α,L.findSome? (fun g=>if c g=true then some (f g) else none)=(L.find? c).map f
 | []=>rfl
 | x :: L=>by
  rw[List.findSome?_cons,List.find?_cons];by_cases h:c x=true
  ·rw[if_pos h,h]; rfl
  ·rw[if_neg h];rw[Bool.not_eq_true] at h;rw[h];exact Y7f c f L
theorem bif_by {α:Type} {c:Bool} {x y z:α} (h1:c=true->x=z) (h2:c=false->y=z):(bif c then x else y)=z:=by
 cases c with
 | true=>exact h1 rfl
 | false=>exact h2 rfl
section
variable (caps:List Int) (l:List Ev)
def isW (v:Int) (i:Nat):Prop:=(getE l i).2.1=17/\(getE l i).2.2.1=v
def isR (v:Int) (g i:Nat):Prop:=(getE l i).2.1=16/\(getE l i).2.2.1=v/\(getE l i).1=(g:Int)
def Rm (m j:Nat):Prop:=m ≠ 0/\Rs caps l (m - 1) j
noncomputable def wO (j:Nat):Nat:=lst (isW l (getE l j).2.2.1) j
noncomputable def rO (j g:Nat):Nat:=lst (isR l (getE l j).2.2.1 g) j
noncomputable def gO (j:Nat):Option Nat:=(List.range 8).find? fun g=>tB (Rm caps l (rO l j g) j)
noncomputable def mt (j:Nat):Nat:=if tB (Rm caps l (wO l j) j)=true then wO l j else ((gO caps l j).map (rO l j)).getD 0
noncomputable def rowR (v:Int) (j:Nat):List (Int × Int):=(List.range 8).map fun g:Nat=>accO l (lst (isR l v g) j)
noncomputable def shV (j:Nat) (v:Int):(Int × Int) × List (Int × Int):=(accO l (lst (isW l v) j),rowR l v j)
noncomputable def sh (j:Nat):List ((Int × Int) × List (Int × Int)):=(List.range 4).map fun v:Nat=>shV l j (v:Int)
variable {caps l}
theorem accO_2 (m:Nat):(accO l m).2=(m:Int):=by
 unfold accO;by_cases h:m=0
 ·rw[if_pos h,h]; rfl
 ·rw[if_neg h]
theorem sh_at (j:Nat) {v:Nat} (h:v < 4):getAt ((((0:Int),(0:Int)),List.replicate 8 ((0:Int),(0:Int)))) (sh l j) v=shV l j v:=by
 rw[getAtL _ (by unfold sh; simpa using h)];simp[sh]
theorem Yel (v:Int) (j:Nat):(rowR l v j).length=8:=by unfold rowR; simp
theorem row_at (v:Int) (j:Nat) {g:Nat} (h:g < 8):getAt ((0:Int),(0:Int)) (rowR l v j) g=accO l (lst (isR l v g) j):=by
 rw[getAtL _ (by rw[Yel]; exact h)];simp[rowR]
theorem Rm_w (hG:GoodL caps l) {j:Nat} (hj:j < l.length) (hk:16 <= (getE l j).2.1):Rm caps l (wO l j) j ↔ wO l j ≠ 0/\¬ Reach caps l (wO l j - 1) j:=by
 constructor
 ·exact fun h=>⟨h.1,h.2.2.1⟩
 ·rintro ⟨h1,h2⟩;have h3:=lst_at (isW l (getE l j).2.2.1) j h1;have h4:wO l j <= j:=lst_le _ _;refine ⟨h1,⟨⟨?_,hk⟩,h3.2,.inl h3.1⟩,h2,fun z=>?_⟩
  ·have:=h3.1; unfold wO; omega
  ·have:=z.le; omega
theorem Rm_r (hG:GoodL caps l) {j:Nat} (hj:j < l.length) (g:Nat):Rm caps l (rO l j g) j ↔ (rO l j g ≠ 0/\¬ Reach caps l (rO l j g - 1) j)/\(getE l j).2.1=17:=by
 constructor
 ·intro h;have h3:=lst_at (isR l (getE l j).2.2.1 g) j h.1;refine ⟨⟨h.1,h.2.2.1⟩,h.2.1.2.2.resolve_left fun q=>?_⟩;have h3:(getE l ((rO l j g - 1:Nat):Int)).2.1=16:=h3.1;omega
 ·rintro ⟨⟨h1,h2⟩,h5⟩;have h3:=lst_at (isR l (getE l j).2.2.1 g) j h1;have h4:rO l j g <= j:=lst_le _ _;refine ⟨h1,⟨⟨?_,by omega⟩,h3.2.1,.inr h5⟩,h2,fun z=>?_⟩
  ·have:=h3.1; unfold rO; omega
  ·have:=z.le; omega
theorem Yap (hG:GoodL caps l) (hl:l.length < 29000) {j v:Nat} (hj:j < l.length) (hk:16 <= (getE l j).2.1) (hv:(getE l j).2.2.1=(v:Int)) (h4:v < 4) :
  Z2u ((v:Int),getE l j,clk caps l j,sh l j)=some ((mt caps l j:Int),sh l j):=by
 have k17:=Y92 hG hj;have ew:shV l j (v:Int)=(accO l (wO l j),rowR l (v:Int) j):=by unfold shV wO; rw[hv]
 have er:∀ g,lst (isR l (v:Int) g) j=rO l j g:=fun g=>by unfold rO; rw[hv]
 have hle:∀ g,rO l j g <= l.length:=fun g=>by have:rO l j g <= j:=lst_le _ _; omega
 unfold Z2u;simp only[Yhe];rw[sh_at j h4,ew];simp only;rw[Y1x hG hl (by have:wO l j <= j:=lst_le _ _; omega) hj,tB_eq (Rm_w hG hj hk).symm];simp only[bS9];unfold mt;by_cases c1:Rm caps l (wO l j) j
 ·rw[if_pos (tB_t c1),tB_t c1,bif_t rfl,accO_2]
 rw[if_neg (fun z=>c1 (Yh3.1 z)),tB_f c1,bif_f rfl]
 have none_of:(∀ g,¬ Rm caps l (rO l j g) j)->((gO caps l j).map (rO l j)).getD 0=0:=fun h=>by
  have:gO caps l j=none:=List.find?_eq_none.2 fun g _ z=>h g (Yh3.1 z)
  rw[this]; rfl
 by_cases c2:(getE l j).2.1=16
 ·rw[bif_t (beq_iff_eq.2 c2),none_of fun g z=>by have:=((Rm_r hG hj g).1 z).2; omega]; rfl
 rw[bif_f (beq_eq_false_iff_ne.2 c2)];refine bif_by (fun hb=>?_) (fun hb=>?_)
 ·have hz:=beq_eq (@Ty.arr 8 (@Ty.pair (@Ty.int Go.IntKind.i64) (@Ty.int Go.IntKind.i64))) _ _ rfl hb;have hz:rowR l (v:Int) j=List.replicate 8 ((0:Int),(0:Int)):=hz
  have:∀ g,g < 8->rO l j g=0:=fun g hg=>by
   have:=row_at (l:=l) (v:Int) j hg;rw[hz,getAtL _ (by simpa using hg),List.getElem_replicate,er] at this;have:=congrArg Prod.snd this;rw[accO_2] at this;have this:(0:Int)=(rO l j g:Int):=this;omega
  have:gO caps l j=none:=List.find?_eq_none.2 fun g hg z=>(Yh3.1 z).1 (this g (List.mem_range.1 hg))
  rw[this]; rfl
 ·have key:=Ya1 (f:=Z7e) 8 (fun g=>((v:Int),8,(g:Int),sh l j,clk caps l j)) (fun g=>if tB (Rm caps l (rO l j g) j)=true then some (.inl ((g:Int),sh l j,clk caps l j)) else none) (.inr (sh l j,clk caps l j)) (by
    intro g hg;unfold Z7e Z2v;simp only[Yhe];rw[bif_t (dT9 (by omega)),bif_t (Y86 hg),sh_at j h4,ew];simp only;rw[row_at _ _ hg,er,Y1x hG hl (hle g) hj,wrapI (by omega) (by omega)];simp only[bS9];by_cases q:Rm caps l (rO l j g) j
    ·rw[if_pos (tB_t q),tB_t ((Rm_r hG hj g).1 q).1]; rfl
    ·rw[if_neg (fun z=>q (Yh3.1 z)),tB_f (fun z=>q ((Rm_r hG hj g).2 ⟨z,by omega⟩))]; rfl) (by
    unfold Z7e;simp only;rw[bif_f (dF9 (by omega))])
  rw[Y7f (fun g:Nat=>tB (Rm caps l (rO l j g) j)) (fun g=>(.inl ((g:Int),sh l j,clk caps l j):(Int × List ((Int × Int) × List (Int × Int)) × List Int) ⊕ (List ((Int × Int) × List (Int × Int)) × List Int)))] at key;unfold Z3i;simp only[Yhe];rw[show loop Z7e (natI (toN (natI v)),((8:Nat):Int),0,sh l j,clk caps l j)=_ from key,show (List.range 8).find? (fun g:Nat=>tB (Rm caps l (rO l j g) j))=gO caps l j from rfl];cases e:gO caps l j with
  | none=>rfl
  | some g =>
   have hg:g < 8:=List.mem_range.1 (List.mem_of_find?_eq_some e);simp only[Option.map_some,Option.getD_some,bS9];rw[bif_f (dF9 (by omega)),bif_t (Y86 hg),Yhe,sh_at j h4,ew];simp only;rw[row_at _ _ hg,er,accO_2]
theorem sh_len (j:Nat):(sh l j).length=4:=by unfold sh; simp
theorem sh_get (j:Nat) {v:Nat} (h:v < 4) (z:v < (sh l j).length):(sh l j)[v]=shV l j v:=by simp[sh]
theorem Yfq {j:Nat} {v:Int} (h:¬ (16 <= (getE l j).2.1/\(getE l j).2.1 <= 17/\(getE l j).2.2.1=v)):shV l (j+1) v=shV l j v:=by
 unfold shV rowR;rw[lst_s,if_neg (fun z=>by have:=(Yh3.1 z:isW l v j); exact h ⟨by have:=this.1; omega,by have:=this.1; omega,this.2⟩)];congr 1;refine List.map_congr_left fun g _=>?_
 rw[lst_s,if_neg (fun z=>by have:=(Yh3.1 z:isR l v g j); exact h ⟨by have:=this.1; omega,by have:=this.1; omega,this.2.1⟩)]
theorem accO_s (j:Nat):accO l (j+1)=(((ownN l j:Nat):Int),(j:Int)+1):=by
 unfold accO;rw[if_neg (by omega)]; rfl
theorem Yeb (hG:GoodL caps l) {j v:Nat} (hj:j < l.length) (hk:16 <= (getE l j).2.1) (hv:(getE l j).2.2.1=(v:Int)) (h4:v < 4) :
  Z2y ((v:Int),getE l j,(((ownN l j:Nat):Int),(j:Int)+1),sh l j)=some (sh l (j+1)):=by
 have k17:=Y92 hG hj;obtain ⟨g1,g2,g3⟩:=gor_of hG hj;unfold Z2y;simp only[Yhe];rw[sh_at j h4,<- accO_s]
 have fin:∀ X,X=shV l (j+1) v->(sh l j).set v X=sh l (j+1):=by
  rintro X rfl;apply List.ext_getElem
  ·rw[List.length_set,sh_len,sh_len]
  ·intro u h1 h2;have h2:u < 4:=by rw[sh_len] at h2; exact h2
   rw[List.getElem_set,sh_get _ h2];by_cases e:v=u
   ·rw[if_pos e,e,sh_get _ h2]
   ·rw[if_neg e,sh_get _ h2];exact (Yfq fun q=>e (by have:=q.2.2; omega)).symm
 by_cases c:(getE l j).2.1=17
 ·rw[bif_t (beq_iff_eq.2 c),fin];unfold shV rowR;rw[lst_s,if_pos (tB_t ⟨c,hv⟩)];congr 1;refine List.map_congr_left fun g _=>?_
  rw[lst_s,if_neg (fun z=>by have:=(Yh3.1 z:isR l v g j).1; omega)]
 ·rw[bif_f (beq_eq_false_iff_ne.2 c),g1,bif_t (Y86 (by omega)),Yhe,fin];unfold shV;rw[lst_s (isW l (v:Int)),if_neg (fun z=>c (Yh3.1 z:isW l v j).1)];congr 1;apply List.ext_getElem
  ·rw[List.length_set,Yel,Yel]
  ·intro g h1 h2;have h2:g < 8:=by rw[Yel] at h2; exact h2
   rw[List.getElem_set];simp only[rowR,List.getElem_map,List.getElem_range];by_cases e:(getE l j).1.toNat=g
   ·rw[if_pos e,lst_s,if_pos (tB_t ⟨by omega,hv,by omega⟩)]
   ·rw[if_neg e,lst_s,if_neg (fun z=>e (by have:=(Yh3.1 z:isR l v g j).2.2; omega))]
end
set_option maxHeartbeats 1000000
theorem Y7g {α:Type} {q q':Nat->Option α}:∀ n,(∀ j,j < n->(∀ i,i < j->q' i=none)->q j=q' j)->(List.range n).findSome? q=(List.range n).findSome? q'
 | 0,_=>rfl
 | n+1,h=>by
  rw[List.range_succ,List.findSome?_append,List.findSome?_append,Y7g n fun j hj=>h j (by omega)];cases e:(List.range n).findSome? q' with
  | some y=>rfl
  | none =>
   have:=List.findSome?_eq_none_iff.1 e;have:=h n (by omega) fun i hi=>this i (List.mem_range.2 hi)
   simp only[List.findSome?_cons,List.findSome?_nil,this]
section
variable (caps:List Int) (l:List Ev)
def RJ (j:Nat):Prop:=∃ i,i < j/\Rs caps l i j
noncomputable def firstJ:Option Nat:=(List.range l.length).find? fun j=>tB (RJ caps l j)
variable {caps l}
theorem mt_ne {j:Nat}:mt caps l j ≠ 0 ↔ Rm caps l (wO l j) j \/ ∃ g,g < 8/\Rm caps l (rO l j g) j:=by
 unfold mt;by_cases h:Rm caps l (wO l j) j
 ·rw[if_pos (tB_t h)];exact ⟨fun _=>.inl h,fun _=>h.1⟩
 ·rw[if_neg (fun z=>h (Yh3.1 z))];cases e:gO caps l j with
  | none =>
   have:=List.find?_eq_none.1 e;exact ⟨fun q=>absurd rfl q,fun q=>q.elim (fun z=>absurd z h) fun ⟨g,h1,h2⟩=>absurd (tB_t h2) (this g (List.mem_range.2 h1))⟩
  | some g =>
   have h1:=List.find?_some e;have h2:=List.mem_range.1 (List.mem_of_find?_eq_some e);exact ⟨fun _=>.inr ⟨g,h2,Yh3.1 h1⟩,fun _=>(Yh3.1 h1).1⟩
theorem mt_RJ {j:Nat} (h:mt caps l j ≠ 0):RJ caps l j:=by
 rcases mt_ne.1 h with q | ⟨g,_,q⟩
 ·have:wO l j <= j:=lst_le _ _;exact ⟨wO l j - 1,by have:=q.1; omega,q.2⟩
 ·have:rO l j g <= j:=lst_le _ _;exact ⟨rO l j g - 1,by have:=q.1; omega,q.2⟩
theorem RJ_mt (hG:GoodL caps l) {j:Nat} (hj:j < l.length) (h0:∀ i,i < j->¬ RJ caps l i) (h:RJ caps l j):mt caps l j ≠ 0:=by
 obtain ⟨i,hi,hr⟩:=h;have hil:i < l.length:=by omega
 have ki:=Y92 hG hil;have kj:=Y92 hG hj;obtain ⟨⟨⟨c1,c2⟩,c3,c4⟩,c5,c6⟩:=hr;refine mt_ne.2 ?_;by_cases hw:(getE l i).2.1=17
 ·refine .inl ((Rm_w hG hj c2).2 ?_);have hlt:i < wO l j:=lst_ge _ _ _ hi ⟨hw,c3⟩;have hle:wO l j <= j:=lst_le _ _;have hp:isW l (getE l j).2.2.1 (wO l j - 1):=lst_at _ _ (show wO l j ≠ 0 by omega);refine ⟨by omega,fun z=>c5 ?_⟩;by_cases e:i=wO l j - 1
  ·rw[e]; exact z
  ·have hR:Reach caps l i (wO l j - 1):=Classical.byContradiction fun q=>h0 (wO l j - 1) (by omega) ⟨i,by omega,⟨⟨c1,by have:=hp.1; omega⟩,c3.trans hp.2.symm,.inl hw⟩,q,fun y=>by have:=y.le; omega⟩
   exact hR.trans z
 ·have hk:(getE l i).2.1=16:=by omega
  have hj17:(getE l j).2.1=17:=by omega
  obtain ⟨g1,g2,g3⟩:=gor_of hG hil;refine .inr ⟨(getE l i).1.toNat,g2,(Rm_r hG hj _).2 ⟨?_,hj17⟩⟩;have hlt:i < rO l j (getE l i).1.toNat:=lst_ge _ _ _ hi ⟨hk,c3,g1⟩;have hle:rO l j (getE l i).1.toNat <= j:=lst_le _ _;have hp:isR l (getE l j).2.2.1 (getE l i).1.toNat (rO l j (getE l i).1.toNat - 1):=lst_at _ _ (show rO l j (getE l i).1.toNat ≠ 0 by omega);refine ⟨by omega,fun z=>c5 ?_⟩;exact (Ydr hG (by omega) (by omega) (g1.trans hp.2.2.symm)).trans z
theorem Y8 (hc:capsOK caps) (hG:GoodL caps l) (hl:l.length < 29000):Z2g (caps,l)=some (match firstJ caps l with | some j=>(((j:Int),(mt caps l j:Int) - 1,(getE l j).2.2.1),0) | none=>((0,0,0),4)):=by
 have hL:(Y3w caps l l.length).length=l.length:=Y3z _ _ _
 have key:=Ya1 (f:=Z72) l.length (fun j=>(Y3w caps l l.length,l,(l.length:Int),(j:Int),(0,0,0),sh l j)) (fun j=>if tB (16 <= (getE l j).2.1/\mt caps l j ≠ 0)=true then some (.inl (0,(j:Int),(mt caps l j:Int) - 1,(getE l j).2.2.1)) else none) (.inr (0,0,0)) (by
   intro j hj;have k17:=Y92 hG hj;unfold Z72;simp only;rw[bif_t (dT9 (by omega)),bif_t (Y86 hj),Y7l,Y8p,wrapI (n:=(j:Int)+1) (by omega) (by omega)];simp only[bS9];by_cases c:16 <= (getE l j).2.1
   case neg =>
    rw[if_neg (fun z=>c (Yh3.1 z).1),tB_f (by omega),bif_t (by rfl)]
    have:sh l (j+1)=sh l j:=by
     unfold sh;exact List.map_congr_left fun v _=>Yfq fun q=>c q.1
    rw[this]; rfl
   obtain ⟨v1,v2⟩:=var_in hG hj c;obtain ⟨v,hv⟩:∃ v:Nat,(getE l j).2.2.1=v:=⟨(getE l j).2.2.1.toNat,by omega⟩
   have hv4:v < 4:=by omega
   have hm:mt caps l j <= l.length:=by
    unfold mt;have h1:wO l j <= j:=lst_le _ _;split
    ·omega
    ·cases gO caps l j with
     | none=>show 0 <= _; omega
     | some g=>have h2:rO l j g <= j:=lst_le _ _; show rO l j g <= _; omega
   rw[tB_t (by omega),bif_f (by rfl),hv,bif_t (Y86 (n:=4) hv4),bif_t (Y86 (by omega)),Yhe,Yhe,getAtL _ (show j < (Y3w caps l l.length).length by omega),Y3v hj,show natI v=(v:Int) from rfl,Yap hG hl hj c hv hv4];simp only[bS9];by_cases q:mt caps l j=0
   ·rw[if_neg (fun z=>(Yh3.1 z).2 q),bif_f (dF9 (by omega)),bif_t (Y86 (by omega)),own_of hG hl hj];simp only[bS9];rw[Yeb hG hj c hv hv4];rfl
   ·rw[if_pos (tB_t ⟨c,q⟩),bif_t (dT9 (by omega)),wrapI (by omega) (by omega)]) (by
   unfold Z72;simp only;rw[bif_f (dF9 (by omega))])
 rw[Y7g (q':=fun j=>if tB (RJ caps l j)=true then some (.inl (0,(j:Int),(mt caps l j:Int) - 1,(getE l j).2.2.1)) else none) l.length fun j hj h0=>by
  have h0:∀ i,i < j->¬ RJ caps l i:=fun i hi z=>by
   have:=h0 i hi;rw[if_pos (tB_t z)] at this; cases this
  by_cases z:RJ caps l j
  ·have:=RJ_mt hG hj h0 z;rw[if_pos (tB_t z),if_pos (tB_t ⟨by obtain ⟨i,_,r⟩:=z; exact r.1.1.2,this⟩)]
  ·rw[if_neg (fun y=>z (Yh3.1 y)),if_neg (fun y=>z (mt_RJ (Yh3.1 y).2))],Y7f (fun j=>tB (RJ caps l j)) (fun j=>(.inl (0,(j:Int),(mt caps l j:Int) - 1,(getE l j).2.2.1):(Int × Int × Int × Int) ⊕ (Int × Int × Int)))] at key
 unfold Z2g;simp only;rw[Ygo hc hG hl];simp only[bS9];rw[bif_f (by rfl)];have hs:sh l 0=[(((0:Int),(0:Int)),[((0:Int),(0:Int)),((0:Int),(0:Int)),((0:Int),(0:Int)),((0:Int),(0:Int)),((0:Int),(0:Int)),((0:Int),(0:Int)),((0:Int),(0:Int)),((0:Int),(0:Int))]),(((0:Int),(0:Int)),[((0:Int),(0:Int)),((0:Int),(0:Int)),((0:Int),(0:Int)),((0:Int),(0:Int)),((0:Int),(0:Int)),((0:Int),(0:Int)),((0:Int),(0:Int)),((0:Int),(0:Int))]),(((0:Int),(0:Int)),[((0:Int),(0:Int)),((0:Int),(0:Int)),((0:Int),(0:Int)),((0:Int),(0:Int)),((0:Int),(0:Int)),((0:Int),(0:Int)),((0:Int),(0:Int)),((0:Int),(0:Int))]),(((0:Int),(0:Int)),[((0:Int),(0:Int)),((0:Int),(0:Int)),((0:Int),(0:Int)),((0:Int),(0:Int)),((0:Int),(0:Int)),((0:Int),(0:Int)),((0:Int),(0:Int)),((0:Int),(0:Int))])]:=rfl;rw[hs] at key
 rw[show loop Z72 (Y3w caps l l.length,l,((l.length:Nat):Int),0,(0,0,0),_)=_ from key,show (List.range l.length).find? (fun j=>tB (RJ caps l j))=firstJ caps l from rfl];cases firstJ caps l <;> rfl
theorem Y9e (l:List Ev) {j:Nat} (hj:j < l.length) (hl:l.length < 29000) (k g:Int):Z2c (l,(j:Int),k,g)=some ((lst (fun i=>(getE l i).2.1=k/\(getE l i).2.2.1=(getE l j).2.2.1/\(g < 0 \/ (getE l i).1=g)) j:Int) - 1):=by
 have hcut:cut l (toN 0) (toN (j:Int) - toN 0)=l.take j:=by show (l.drop 0).take (j - 0)=_; simp
 have htl:(l.take j).length=j:=by rw[List.length_take]; omega
 have key:=Y9y (f:=Z6w) j (fun i=>(l,(j:Int),k,g,(lst (fun i=>(getE l i).2.1=k/\(getE l i).2.2.1=(getE l j).2.2.1/\(g < 0 \/ (getE l i).1=g)) i:Int) - 1,l.take j,(j:Int),(i:Int))) ((lst (fun i=>(getE l i).2.1=k/\(getE l i).2.2.1=(getE l j).2.2.1/\(g < 0 \/ (getE l i).1=g)) j:Int) - 1) (by
   intro i hi;unfold Z6w;simp only;rw[bif_t (dT9 (by omega)),bif_t (Y86 (by omega)),Y7l,Y7l,<- Y7n (by omega) (by omega) (by omega),wrapI (by omega) (by omega),lst_s];by_cases c1:(getE l i).2.1=k
   case neg=>rw[bif_f (beq_eq_false_iff_ne.2 c1),if_neg (fun z=>c1 (Yh3.1 z).1)]; rfl
   rw[bif_t (beq_iff_eq.2 c1),bif_t (Y86 hj)];by_cases c2:(getE l i).2.2.1=(getE l j).2.2.1
   case neg=>rw[bif_f (beq_eq_false_iff_ne.2 c2),if_neg (fun z=>c2 (Yh3.1 z).2.1)]; rfl
   rw[bif_t (beq_iff_eq.2 c2)];by_cases c3:g < 0
   ·rw[bif_t (dT9 c3),if_pos (tB_t ⟨c1,c2,.inl c3⟩),show (((i+1:Nat):Int)) - 1=(i:Int) by omega]; rfl
   rw[bif_f (dF9 c3)];by_cases c4:(getE l i).1=g
   ·rw[bif_t (beq_iff_eq.2 c4),if_pos (tB_t ⟨c1,c2,.inr c4⟩),show (((i+1:Nat):Int)) - 1=(i:Int) by omega]; rfl
   ·rw[bif_f (beq_eq_false_iff_ne.2 c4),if_neg (fun z=>(Yh3.1 z).2.2.elim c3 c4)]; rfl) (by
   unfold Z6w;simp only;rw[bif_f (dF9 (by omega))]) 0 (Nat.zero_le _)
 unfold Z2c;simp only;rw[bif_t (sub3L.2 ⟨by omega,by omega,by omega⟩),hcut,htl,show loop Z6w (l,(j:Int),k,g,Int.negSucc 0,l.take j,((j:Nat):Int),0)=_ from key];rfl
theorem Y9c {j:Nat} (hj:j < l.length) (hl:l.length < 29000):Z2c (l,(j:Int),17,Int.negSucc 0)=some ((wO l j:Int) - 1):=by
 rw[Y9e l hj hl,show (fun i:Nat=>(getE l i).2.1=17/\(getE l i).2.2.1=(getE l j).2.2.1/\(Int.negSucc 0 < 0 \/ (getE l i).1=Int.negSucc 0))=isW l (getE l j).2.2.1 from funext fun i=>propext ⟨fun q=>⟨q.1,q.2.1⟩,fun q=>⟨q.1,q.2,.inl (by omega)⟩⟩];rfl
theorem Y9a {j:Nat} (hj:j < l.length) (hl:l.length < 29000) (g:Nat):Z2c (l,(j:Int),16,(g:Int))=some ((rO l j g:Int) - 1):=by
 rw[Y9e l hj hl,show (fun i:Nat=>(getE l i).2.1=16/\(getE l i).2.2.1=(getE l j).2.2.1/\((g:Int) < 0 \/ (getE l i).1=(g:Int)))=isR l (getE l j).2.2.1 g from funext fun i=>propext ⟨fun q=>⟨q.1,q.2.1,q.2.2.resolve_left (by omega)⟩,fun q=>⟨q.1,q.2.1,.inr q.2.2⟩⟩];rfl
theorem Y5h (hc:capsOK caps) (hG:GoodL caps l) (hl:l.length < 29000) {j:Nat} (hj:j < l.length):Z2a (caps,l,(j:Int))=some ((mt caps l j:Int) - 1):=by
 have key:=Ya1 (f:=Z6u) 8 (fun g=>(caps,l,(j:Int),(g:Int))) (fun g=>if tB (Rm caps l (rO l j g) j)=true then some (.inl ((rO l j g:Int) - 1)) else none) (.inr ()) (by
   intro g hg;have hle:rO l j g <= j:=lst_le _ _;unfold Z6u;simp only;rw[bif_t (dT9 (by omega)),Y9a hj hl,wrapI (by omega) (by omega)];simp only[bS9];by_cases c:rO l j g=0
   ·rw[bif_f (dF9 (by omega)),if_neg (fun z=>(Yh3.1 z).1 c)]; rfl
   ·rw[bif_t (dT9 (by omega)),show ((rO l j g:Nat):Int) - 1=((rO l j g - 1:Nat):Int) by omega,Ydu hc hG hl (by omega) hj];simp only[bS9];by_cases q:Rs caps l (rO l j g - 1) j
    ·rw[tB_t q,if_pos (tB_t ⟨c,q⟩)]; rfl
    ·rw[tB_f q,if_neg (fun z=>q (Yh3.1 z).2)]; rfl) (by
   unfold Z6u;simp only;rw[bif_f (dF9 (by omega))])
 rw[Y7f (fun g=>tB (Rm caps l (rO l j g) j)) (fun g=>(.inl ((rO l j g:Int) - 1):Int ⊕ Unit)),show (List.range 8).find? (fun g=>tB (Rm caps l (rO l j g) j))=gO caps l j from rfl] at key
 have fin:((loop Z6u (caps,l,(j:Int),0)).bind fun r14=>match r14 with | .inl y15=>some y15 | .inr y15=>some (Int.negSucc 0))=some (((((gO caps l j).map (rO l j)).getD 0:Nat):Int) - 1):=by
  rw[show loop Z6u (caps,l,(j:Int),0)=_ from key];cases gO caps l j <;> rfl
 unfold Z2a mt;simp only;rw[Y9c hj hl];simp only[bS9];have hle:wO l j <= j:=lst_le _ _;by_cases c:wO l j=0
 ·rw[bif_f (dF9 (by omega)),if_neg (fun z=>(Yh3.1 z).1 c)];exact fin
 ·rw[bif_t (dT9 (by omega)),show ((wO l j:Nat):Int) - 1=((wO l j - 1:Nat):Int) by omega,Ydu hc hG hl (by omega) hj];simp only[bS9];by_cases q:Rs caps l (wO l j - 1) j
  ·rw[tB_t q,if_pos (tB_t ⟨c,q⟩),bif_t rfl,show ((wO l j:Nat):Int) - 1=((wO l j - 1:Nat):Int) by omega]
  ·rw[tB_f q,if_neg (fun z=>q (Yh3.1 z).2),bif_f rfl];exact fin
theorem Y9f (hc:capsOK caps) (hG:GoodL caps l) (hl:l.length < 29000):Z2e (caps,l)=some (match firstJ caps l with | some j=>(j:Int) | none=>-1):=by
 have inner:∀ j,j < l.length->loop Z70 (caps,l,(j:Int),0,(l.length:Int),(j:Int))=some (if tB (RJ caps l j)=true then .inl (j:Int) else .inr (caps,l,(l.length:Int),(j:Int))):=by
  intro j hj
  have key:=Ya1 (f:=Z70) j (fun i=>(caps,l,(j:Int),(i:Int),(l.length:Int),(j:Int))) (fun i=>if tB (Rs caps l i j)=true then some (.inl (j:Int)) else none) (.inr (caps,l,(l.length:Int),(j:Int))) (by
    intro i hi;unfold Z70;simp only;rw[bif_t (dT9 (by omega)),Ydu hc hG hl (by omega) hj,wrapI (by omega) (by omega)];simp only[bS9];by_cases q:Rs caps l i j
    ·rw[tB_t q]; rfl
    ·rw[tB_f q]; rfl) (by
    unfold Z70;simp only;rw[bif_f (dF9 (by omega))])
  rw[Y7f (fun i=>tB (Rs caps l i j)) (fun _=>(.inl (j:Int):Int ⊕ (List Int × List Ev × Int × Int)))] at key;rw[show loop Z70 (caps,l,(j:Int),0,(l.length:Int),(j:Int))=_ from key];cases e:(List.range j).find? (fun i=>tB (Rs caps l i j)) with
  | some i =>
   rw[if_pos (tB_t ⟨i,List.mem_range.1 (List.mem_of_find?_eq_some e),Yh3.1 (List.find?_some (p:=fun i=>tB (Rs caps l i j)) e)⟩)]; rfl
  | none =>
   have:=List.find?_eq_none.1 e;rw[if_neg (fun z=>by obtain ⟨i,h1,h2⟩:=(Yh3.1 z:RJ caps l j); exact this i (List.mem_range.2 h1) (tB_t h2))]; rfl
 have key:=Ya1 (f:=Z6y) l.length (fun j=>(caps,l,(l.length:Int),(j:Int))) (fun j=>if tB (RJ caps l j)=true then some (.inl (j:Int)) else none) (.inr ()) (by
   intro j hj;unfold Z6y;simp only;rw[bif_t (dT9 (by omega)),inner j hj];simp only[bS9];by_cases q:RJ caps l j
   ·rw[if_pos (tB_t q),if_pos (tB_t q)]
   ·rw[if_neg (fun z=>q (Yh3.1 z)),if_neg (fun z=>q (Yh3.1 z))];simp only;rw[wrapI (by omega) (by omega)]; rfl) (by
   unfold Z6y;simp only;rw[bif_f (dF9 (by omega))])
 rw[Y7f (fun j=>tB (RJ caps l j)) (fun j=>(.inl (j:Int):Int ⊕ Unit)),show (List.range l.length).find? (fun j=>tB (RJ caps l j))=firstJ caps l from rfl] at key;unfold Z2e;simp only;rw[show loop Z6y (caps,l,((l.length:Nat):Int),0)=_ from key];cases firstJ caps l <;> rfl
theorem Ydt (hc:capsOK caps) (hG:GoodL caps l) (hl:l.length < 29000):Z22 (caps,l)=some (match firstJ caps l with | some j=>(((j:Int),(mt caps l j:Int) - 1,(getE l j).2.2.1),true) | none=>((0,0,0),false)):=by
 unfold Z22;simp only;rw[Y9f hc hG hl];simp only[bS9];cases e:firstJ caps l with
 | none=>rfl
 | some j =>
  have hj:=List.mem_range.1 (List.mem_of_find?_eq_some e);simp only;rw[bif_f (dF9 (by omega)),Y5h hc hG hl hj];simp only[bS9];rw[bif_t (Y86 hj),Y7l]
end
set_option maxHeartbeats 1000000
abbrev al18:List Ev:=[((0:Int),(0:Int),(0:Int),(0:Int),(-1:Int)),(0,1,1,0,-1),(1,0,0,0,1),(0,17,0,0,-1),(1,17,0,0,-1)]
theorem good18:GoodL [] al18:=by
 intro i hi;have hi:i < 5:=hi
 match i,hi with
 | 0,_ =>
  show goodE [] [] (0,0,0,0,-1);refine ⟨⟨by decide,by decide,by decide,by decide,by decide,by decide,by decide⟩,?_⟩;rw[if_pos (by rfl)];exact ⟨rfl,rfl,rfl,by rw[if_pos (by rfl)]⟩
 | 1,_ =>
  show goodE [] [(0,0,0,0,-1)] (0,1,1,0,-1);refine goodP ⟨by decide,by decide,by decide,by decide,by decide,by decide,by decide⟩ (by decide) (by decide) rfl (fun q=>absurd rfl q) (by decide) rfl ?_;refine ⟨fun _=>rfl,?_,?_,?_,?_,?_,?_,?_,?_⟩ <;> exact fun q=>absurd q (by decide)
 | 2,_ =>
  show goodE [] [(0,0,0,0,-1),(0,1,1,0,-1)] (1,0,0,0,1);refine ⟨⟨by decide,by decide,by decide,by decide,by decide,by decide,by decide⟩,?_⟩;rw[if_pos (by rfl)];refine ⟨rfl,rfl,rfl,?_⟩;rw[if_neg (by decide)];exact ⟨by decide,rfl,rfl⟩
 | 3,_ =>
  show goodE [] [(0,0,0,0,-1),(0,1,1,0,-1),(1,0,0,0,1)] (0,17,0,0,-1);refine goodP ⟨by decide,by decide,by decide,by decide,by decide,by decide,by decide⟩ (by decide) (by decide) rfl (fun _=>⟨by decide,by decide⟩) (by decide) rfl ?_;refine ⟨?_,?_,?_,?_,?_,?_,?_,?_,?_⟩ <;> exact fun q=>absurd q (by decide)
 | 4,_ =>
  show goodE [] [(0,0,0,0,-1),(0,1,1,0,-1),(1,0,0,0,1),(0,17,0,0,-1)] (1,17,0,0,-1);refine goodP ⟨by decide,by decide,by decide,by decide,by decide,by decide,by decide⟩ (by decide) (by decide) rfl (fun _=>⟨by decide,by decide⟩) (by decide) rfl ?_;refine ⟨?_,?_,?_,?_,?_,?_,?_,?_,?_⟩ <;> exact fun q=>absurd q (by decide)
theorem Y7s {caps:List Int} {l:List Ev} (h:GoodL caps l) (k:Nat):GoodL caps (l.take k):=by
 intro i hi;have hi2:i < k/\i < l.length:=by rw[List.length_take] at hi; omega
 have:=h i hi2.2;rw[List.take_take,show min i k=i by omega,List.getElem_take];exact this
theorem no_acc {caps:List Int} {l:List Ev} {j:Nat} (h:∀ i:Nat,i < j->(getE l i).2.1 < 16):¬ RJ caps l j:=fun ⟨i,hi,r⟩=>by
 have:=h i hi;have:=r.1.1.1;omega
theorem lo18 (l:List Ev) (h:l.take 3=[((0:Int),(0:Int),(0:Int),(0:Int),(-1:Int)),(0,1,1,0,-1),(1,0,0,0,1)]) {j:Nat} (hj:j <= 3):∀ i:Nat,i < j->(getE l i).2.1 < 16:=by
 intro i hi;rw[Y7n (i:=3) (by have:=congrArg List.length h; rw[List.length_take] at this; simp at this; omega) (by omega) (by omega),h]
 match i,(show i < 3 by omega) with
 | 0,_=>decide
 | 1,_=>decide
 | 2,_=>decide
theorem Y1m:Zk ()=some true:=by
 have hf:=Y8 (caps:=[]) ⟨by decide,by simp⟩ good18 (by decide);have hf4:=Y8 (caps:=[]) ⟨by decide,by simp⟩ (Y7s good18 4) (by decide)
 have n34:¬ Reach [] al18 3 4:=by
  intro h;rcases Ydq h with q | ⟨k,h1,h2,h3⟩
  ·cases q
  ·have:=h3.le;obtain rfl:k=4:=by omega
   rcases h2 with q | q | q | q | q | q | q
   ·exact absurd q (by decide)
   ·exact absurd q.1 (by decide)
   ·exact absurd q.1 (by decide)
   ·exact absurd q.1 (by decide)
   ·exact absurd q.1 (by decide)
   ·exact absurd q.1 (by decide)
   ·exact absurd q.1 (by decide)
 have r34:Rs [] al18 3 4:=⟨⟨⟨by decide,by decide⟩,rfl,.inl rfl⟩,n34,fun h=>absurd h.le (by decide)⟩
 have lo:∀ {j:Nat},j <= 3->¬ RJ [] al18 j:=fun hj=>no_acc (lo18 _ rfl hj)
 have lo4:∀ {j:Nat},j <= 3->¬ RJ [] (al18.take 4) j:=fun hj=>no_acc (lo18 _ rfl hj)
 have f5:firstJ [] al18=some 4:=by
  unfold firstJ;rw[show List.range al18.length=[0,1,2,3,4] from rfl];simp only[List.find?_cons,tB_f (lo (j:=0) (by omega)),tB_f (lo (j:=1) (by omega)),tB_f (lo (j:=2) (by omega)),tB_f (lo (j:=3) (by omega)),tB_t (p:=RJ [] al18 4) ⟨3,by omega,r34⟩]
 have f4:firstJ [] (al18.take 4)=none:=by
  unfold firstJ;rw[show List.range (al18.take 4).length=[0,1,2,3] from rfl];simp only[List.find?_cons,List.find?_nil,tB_f (lo4 (j:=0) (by omega)),tB_f (lo4 (j:=1) (by omega)),tB_f (lo4 (j:=2) (by omega)),tB_f (lo4 (j:=3) (by omega))]
 have w4:wO al18 4=4:=by
  unfold wO;rw[lst_s,if_pos (tB_t ⟨rfl,rfl⟩)]
 have m4:mt [] al18 4=4:=by
  unfold mt;rw[w4,if_pos (tB_t ⟨by decide,r34⟩)]
 rw[f5] at hf;simp only[m4] at hf;rw[f4] at hf4;have hf:Z2g ([],[((0:Int),(0:Int),(0:Int),(0:Int),(Int.negSucc 0)),(0,1,1,0,Int.negSucc 0),(1,0,0,0,1),(0,17,0,0,Int.negSucc 0),(1,17,0,0,Int.negSucc 0)])=some ((4,3,0),0):=hf;have hf4:Z2g ([],cut [((0:Int),(0:Int),(0:Int),(0:Int),(Int.negSucc 0)),(0,1,1,0,Int.negSucc 0),(1,0,0,0,1),(0,17,0,0,Int.negSucc 0),(1,17,0,0,Int.negSucc 0)] (toN 0) (toN 4 - toN 0))=some ((0,0,0),4):=hf4;unfold Zk;rw[hf,hf4];rfl
theorem Y69 (l:List Ev):Zm l=some (l.take 40):=by
 unfold Zm;rw[bif_t (sub3L.2 ⟨by omega,by omega,by omega⟩),Y4y l 40 40 rfl]
theorem Y83 (i n:Int):Zo (i,n)=some (tB (0 <= i/\i < n)):=by
 unfold Zo;simp only;by_cases h:i ≥ 0
 ·rw[bif_t (dT9 h),tB_dec];exact Yg8 ⟨fun q=>⟨h,q⟩,fun q=>q.2⟩
 ·rw[bif_f (dF9 h),tB_f (fun q=>h q.1)]
theorem raceTells_law (caps:List Int) (l:List Ev) (i j:Int):F_plaitlaw18_RaceTells (caps,l,i,j)=some true:=by
 have hln:(l.take 40).length <= 40:=by simp; omega
 have hcn:(caps.take 6).length <= 6:=by simp; omega
 unfold F_plaitlaw18_RaceTells;simp only;rw[bif_t (sub3L.2 ⟨by omega,by omega,by omega⟩),Y69,Y4y caps 6 6 rfl];simp only[bS9,Y1m,Y83];generalize l.take 40=l at *;generalize caps.take 6=caps at *;rw[Yao caps l (by omega) (by omega)];by_cases h:capsOK caps/\GoodL caps l
 case neg =>
  obtain ⟨b1,b2,b3⟩:=Ydf (caps:=caps) (l:=l) (by omega) (by omega) h;rw[b1,b2,b3,tB_f h];rfl
 obtain ⟨hc,hG⟩:=h;have hl:l.length < 29000:=by omega
 have hr:(racyOf caps l).length < 30000:=by
  unfold racyOf;rw[List.length_map];have:=List.length_filter_le (fun v:Nat=>tB (RV caps l l.length (v:Int))) (List.range 4);rw[List.length_range] at this;omega
 rw[Y8 hc hG hl,Yy hc hG hl,Yz hc hG hl,Ydv hc hG hl,Ydt hc hG hl,tB_t (p:=capsOK caps/\GoodL caps l) ⟨hc,hG⟩];simp only[bS9,Bool.not_true,cond_false];rw[bif_f (by rfl),Yeq _ hr];simp only[bS9,Bool.not_true,cond_false];by_cases hi:0 <= i/\i < (l.length:Int)
 ·by_cases hj:0 <= j/\j < (l.length:Int)
  ·obtain ⟨n,rfl⟩:∃ n:Nat,i=n:=⟨i.toNat,by omega⟩
   obtain ⟨m,rfl⟩:∃ m:Nat,j=m:=⟨j.toNat,by omega⟩
   rw[tB_t hi,tB_t hj,if_pos ⟨hi,hj⟩,Ydu hc hG hl (show n < l.length by omega) (show m < l.length by omega),show ((n:Int)).toNat=n from rfl,show ((m:Int)).toNat=m from rfl];cases firstJ caps l <;> cases tB (Rs caps l n m) <;> simp
  ·rw[tB_t hi,tB_f hj,if_neg (fun q=>hj q.2)];cases firstJ caps l <;> simp
 ·rw[tB_f hi,if_neg (fun q=>hi q.1)];cases firstJ caps l <;> simp
end Go.Proofs.YtifbgkikkiallaaGreat.VX.VxZ_Z

