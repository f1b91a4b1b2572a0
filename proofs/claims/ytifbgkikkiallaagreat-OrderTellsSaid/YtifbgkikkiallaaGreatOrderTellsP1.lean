/- Laid for the law OrderTells. -/
import Derived.Test.YtifbgkikkiallaaGreatOrderTellsP0
set_option linter.unusedVariables false
set_option linter.unusedSimpArgs false
set_option maxHeartbeats 1000000
namespace Go.Proofs.YtifbgkikkiallaaGreat.VX.VxZ_Z
open Go.Proofs
theorem bitsN (f:Nat→Nat→Nat) (fb:BitVec 64→BitVec 64→BitVec 64) (hf:∀ x y,(fb x y).toNat=f x.toNat y.toNat) (a b:Nat) (ha:a < 2 ^ 64) (hb:b < 2 ^ 64) (hr:f a b < 2 ^ 63):intBits .i64 (a:Int) (b:Int) fb=(f a b:Int):=by
 unfold intBits
 have h:∀ n:Nat,n < 2 ^ 64→(BitVec.ofInt 64 (n:Int)).toNat=n:=by
  intro n hn;rw [BitVec.toNat_ofInt];show ((n:Int) % ((2 ^ 64:Nat):Int)).toNat=n;omega
 show IntKind.wrap .i64 (((fb (BitVec.ofInt 64 (a:Int)) (BitVec.ofInt 64 (b:Int))).toNat:Nat):Int)=_;rw [hf,h a ha,h b hb,wrapI (by omega) (by omega)]
theorem Yc9 (t g:Nat) (ht:t ≤ 1099511627776) (hg:g < 16):Zg ((t:Int),(g:Int))=some (((16 * t+g:Nat):Int),0):=by
 unfold Zg;simp only;rw [bif_f (decide_eq_false (by omega)),bif_f (decide_eq_false (by omega)),bif_f (decide_eq_false (by omega)),bif_f (decide_eq_false (by omega))]
 have h1:shlI .i64 (t:Int) 4=((16 * t:Nat):Int):=by
  unfold shlI;have:min (4:Int).toNat IntKind.i64.bits=4:=by decide
  rw [this,wrapI (by omega) (by omega)];omega
 have h2:(16 * t) ||| g=16 * t+g:=by
  have:=Nat.shiftLeft_add_eq_or_of_lt (a:=t) (i:=4) (b:=g) (by omega);rw [Nat.shiftLeft_eq] at this;rw [show 16 * t=t * 2 ^ 4 by omega,← this]
 have h3:=bitsN (fun x y=>x ||| y) (fun x y=>x ||| y) (fun x y=>BitVec.toNat_or x y) (16 * t) g (by omega) (by omega) (by show (16 * t) ||| g < _; rw [h2]; omega);have h3:intBits .i64 ((16 * t:Nat):Int) (g:Int) (fun x y=>x ||| y)=(((16 * t) ||| g:Nat):Int):=h3;rw [h1,h3,h2]
theorem Ygy (t g:Nat) (ht:t ≤ 1099511627776) (hg:g < 16):Zi (((16 * t+g:Nat):Int))=some ((t:Int),(g:Int),0):=by
 unfold Zi;rw [bif_f (decide_eq_false (by omega)),bif_f (decide_eq_false (by omega))]
 have h1:shrI .i64 ((16 * t+g:Nat):Int) 4=(t:Int):=by
  unfold shrI;have:min (4:Int).toNat IntKind.i64.bits=4:=by decide
  rw [this,Int.fdiv_eq_ediv_of_nonneg _ (by decide)];omega
 have h2:(16 * t+g) &&& 15=g:=by
  have:=Nat.and_two_pow_sub_one_eq_mod (16 * t+g) 4;rw [show (15:Nat)=2 ^ 4 - 1 by decide,this];omega
 have h3:=bitsN (fun x y=>x &&& y) (fun x y=>x &&& y) (fun x y=>BitVec.toNat_and x y) (16 * t+g) 15 (by omega) (by omega) (by show (16 * t+g) &&& 15 < _; rw [h2]; omega);have h3:intBits .i64 ((16 * t+g:Nat):Int) 15 (fun x y=>x &&& y)=(((16 * t+g) &&& 15:Nat):Int):=h3;rw [h1,h3,h2]
theorem Y92 (t g:Nat) (ht:t ≤ 1099511627776) (hg:g < 16) (c:List Int) (hc:RC c):Ze (((16 * t+g:Nat):Int),c)=some (decide ((t:Int) ≤ atC c g),0):=by
 unfold Ze;simp only;rw [Ygy t g ht hg];simp only [Option.bind_some];rw [bif_f (by rfl),zat_eq c hc g hg];simp only [Option.bind_some];rw [bif_t (by rfl)]
section
variable (caps:List Int) (l:List Ev)
noncomputable def tk (i:Nat):Nat:=cG l (getE l i).1 (i+1)
noncomputable def ownN (i:Nat):Nat:=16 * tk l i+(getE l i).1.toNat
noncomputable def owns (n:Nat):List Int:=(List.range n).map fun i=>(ownN l i:Int)
def Hb (i j:Nat):Prop:=Reach caps l i j∧i ≠ j
variable {caps l}
theorem tk_K (hG:GoodL caps l) {i:Nat} (h:i < l.length):K caps l i (getE l i).1.toNat=tk l i:=by
 obtain ⟨e1,e2,e3⟩:=gor_of hG h;have:=(K_cnt hG i h (getE l i).1.toNat (by omega)).2 rfl;unfold tk;rw [this,← e1]
theorem tk_le {i:Nat}:tk l i ≤ i+1:=cG_le _ _ _
theorem clk_rc {i:Nat} (hi:i < 100000):RC (clk caps l i):=(clk_bc caps l i).rc (by omega)
theorem Y3t {i:Nat} (h:i < l.length) (z:i < (Y3w caps l l.length).length):(Y3w caps l l.length)[i]=clk caps l i:=by
 have:=Y3x caps l l.length i h;simpa [List.getD,z] using this
theorem Y3v (hc:capsOK caps) (hG:GoodL caps l) (hl:l.length < 29000):Zs (caps,l)=some ((Y3w caps l l.length,owns l l.length),0):=by
 have hlen:=Y3z caps l l.length
 have key:=Y9s (f:=Z5a) l.length (fun k=>(Y3w caps l l.length,l,(l.length:Int),(k:Int),Y3w caps l l.length,owns l k)) (Y3w caps l l.length,owns l l.length) (by
   intro k hk;obtain ⟨e1,e2,e3⟩:=gor_of hG hk;have hkc:k < (Y3w caps l l.length).length:=by omega
   have ht:=tk_le (l:=l) (i:=k);unfold Z5a;simp only;rw [bif_t (decide_eq_true (by omega)),bif_t (Y87 hk),bif_t (Y87 hkc),Ygp,getAtL _ hkc,getAtL _ hk,Y3t hk,e3,zat_eq _ (clk_rc (by omega)) _ (by omega)];simp only [Option.bind_some];rw [show atC (clk caps l k) (getE l k).1.toNat=(tk l k:Int) from tk_K hG hk,Yc9 _ _ (by omega) (by omega)];simp only [Option.bind_some];rw [bif_t (Y6o.2 (by unfold owns; simp only [List.length_map,List.length_range,List.length_cons,List.length_nil]; omega)),wrapI (by omega) (by omega)];unfold owns;rw [List.range_succ,List.map_append];rfl) (by
   unfold Z5a;simp only;rw [bif_f (decide_eq_false (by omega))]) 0 (Nat.zero_le _)
 unfold Zs;simp only;rw [Yfz hc hG hl];simp only [Option.bind_some];rw [bif_f (by rfl),show loop Z5a (Y3w caps l l.length,l,((l.length:Nat):Int),0,Y3w caps l l.length,[])=_ from key];rfl
theorem Y2i (hG:GoodL caps l) (hl:l.length < 29000) {i j:Nat} (hi:i < l.length) (hj:j < l.length):Zu ((Y3w caps l l.length,owns l l.length),(i:Int),(j:Int))=some (tB (Hb caps l i j)):=by
 have hlen:=Y3z caps l l.length;have hjc:j < (Y3w caps l l.length).length:=by omega
 have hio:i < (owns l l.length).length:=by unfold owns; simpa using hi
 obtain ⟨e1,e2,e3⟩:=gor_of hG hi;have ht:=tk_le (l:=l) (i:=i);unfold Zu;simp only;rw [bif_t (Y87 hio),bif_t (Y87 hjc),Ygp,Ygp,getAtL _ hio,getAtL _ hjc,Y3t hj];rw [show (owns l l.length)[i]=((16 * tk l i+(getE l i).1.toNat:Nat):Int) by unfold owns; simp [ownN],Y92 _ _ (by omega) (by omega) _ (clk_rc (by omega))];simp only [Option.bind_some];rw [← tk_K hG hi];show (bif decide (K caps l i (getE l i).1.toNat ≤ K caps l j (getE l i).1.toNat) then some ((i:Int) != (j:Int)) else some false)=_;have hk:=Y93 hG hi hj;by_cases h:Reach caps l i j
 ·rw [bif_t (decide_eq_true (hk.2 h))];by_cases e:i=j
  ·rw [tB_f (fun q=>q.2 e),e]; simp
  ·rw [tB_t ⟨h,e⟩]; simp; omega
 ·rw [bif_f (decide_eq_false (fun q=>h (hk.1 q))),tB_f (fun q=>h q.1)]
theorem has_at (cl:List (List Int)) (ow:List Int) (i:Int):Zw ((cl,ow),i)=some (tB (0 ≤ i∧i < (cl.length:Int))):=by
 unfold Zw;simp only;by_cases h:i ≥ 0
 ·rw [bif_t (decide_eq_true h),tB_dec];exact Yfk ⟨fun q=>⟨h,q⟩,fun q=>q.2⟩
 ·rw [bif_f (decide_eq_false h),tB_f (fun q=>h q.1)]
theorem Y3u (hn:caps.length < 30000) (hl:l.length < 29000) (h:¬ (capsOK caps∧GoodL caps l)):Zs (caps,l)=some (([],[]),1):=by
 have hs:Z2w (caps,l)=some ([],1):=by
  unfold Z2w;simp only;rw [Y1h hn hl h];rfl
 unfold Zs;simp only;rw [hs];rfl
theorem Y2k (hc:capsOK caps) (hG:GoodL caps l) (hl:l.length < 29000) (i j:Int):Zm (caps,l,i,j)=some (if (0 ≤ i∧i < l.length)∧0 ≤ j∧j < l.length then (tB (Hb caps l i.toNat j.toNat),0) else (false,3)):=by
 have hlen:=Y3z caps l l.length;unfold Zm;simp only;rw [Y3v hc hG hl];simp only [Option.bind_some];rw [bif_f (by rfl),has_at,has_at,hlen];simp only [Option.bind_some];by_cases hi:0 ≤ i∧i < (l.length:Int)
 ·rw [tB_t hi];by_cases hj:0 ≤ j∧j < (l.length:Int)
  ·rw [tB_t hj,if_pos ⟨hi,hj⟩];have:=Y2i hG hl (i:=i.toNat) (j:=j.toNat) (by omega) (by omega);rw [show ((i.toNat:Nat):Int)=i by omega,show ((j.toNat:Nat):Int)=j by omega] at this;simp only [Bool.not_true,cond_false,this,Option.bind_some]
  ·rw [tB_f hj,if_neg (fun q=>hj q.2)]; rfl
 ·rw [tB_f hi,if_neg (fun q=>hi q.1)]; rfl
theorem Y1s (hc:capsOK caps) (hG:GoodL caps l) (hl:l.length < 29000) (i j:Int):Zk (caps,l,i,j)=some (if (0 ≤ i∧i < l.length)∧0 ≤ j∧j < l.length then (tB (¬ Reach caps l i.toNat j.toNat∧¬ Reach caps l j.toNat i.toNat),0) else (false,3)):=by
 have hlen:=Y3z caps l l.length;unfold Zk;simp only;rw [Y3v hc hG hl];simp only [Option.bind_some];rw [bif_f (by rfl),has_at,has_at,hlen];simp only [Option.bind_some];by_cases hi:0 ≤ i∧i < (l.length:Int)
 ·rw [tB_t hi];by_cases hj:0 ≤ j∧j < (l.length:Int)
  ·rw [tB_t hj,if_pos ⟨hi,hj⟩];have h1:=Y2i hG hl (i:=i.toNat) (j:=j.toNat) (by omega) (by omega);have h2:=Y2i hG hl (i:=j.toNat) (j:=i.toNat) (by omega) (by omega);rw [show ((i.toNat:Nat):Int)=i by omega,show ((j.toNat:Nat):Int)=j by omega] at h1 h2;simp only [Bool.not_true,cond_false];by_cases e:i=j
   ·rw [bif_f (by simp [e]),tB_f (fun q=>q.1 (by rw [e]; exact .refl _))]
   ·have e2:i.toNat ≠ j.toNat:=by omega
    rw [bif_t (bne_iff_ne.2 e),h1];simp only [Option.bind_some];by_cases a:Reach caps l i.toNat j.toNat
    ·rw [tB_t (p:=Hb caps l i.toNat j.toNat) ⟨a,e2⟩,tB_f (fun q=>q.1 a)]; rfl
    ·rw [tB_f (p:=Hb caps l i.toNat j.toNat) (fun q=>a q.1),h2];simp only [Bool.not_false,cond_true,Option.bind_some];by_cases b:Reach caps l j.toNat i.toNat
     ·rw [tB_t (p:=Hb caps l j.toNat i.toNat) ⟨b,e2.symm⟩,tB_f (fun q=>q.2 b)]; rfl
     ·rw [tB_f (p:=Hb caps l j.toNat i.toNat) (fun q=>b q.1),tB_t ⟨a,b⟩]; rfl
  ·rw [tB_f hj,if_neg (fun q=>hj q.2)]; rfl
 ·rw [tB_f hi,if_neg (fun q=>hi q.1)]; rfl
noncomputable def pastOf (caps:List Int) (l:List Ev) (j:Nat):List Int:=((List.range j).filter fun i=>tB (Hb caps l i j)).map fun i:Nat=>(i:Int)
theorem Yce (caps:List Int) (l:List Ev) (j:Nat):(pastOf caps l j).length ≤ j:=by
 unfold pastOf;rw [List.length_map];have:=List.length_filter_le (fun i=>tB (Hb caps l i j)) (List.range j);simpa using this
theorem Ycf {caps:List Int} {l:List Ev} {j:Nat} {x:Int}:x ∈ pastOf caps l j ↔ ∃ i:Nat,x=i∧i < j∧Hb caps l i j:=by
 unfold pastOf;rw [List.mem_map];constructor
 ·rintro ⟨k,hk,rfl⟩;have:=List.mem_filter.1 hk;exact ⟨k,rfl,List.mem_range.1 this.1,Yge.1 this.2⟩
 ·rintro ⟨k,rfl,h1,h2⟩;exact ⟨k,List.mem_filter.2 ⟨List.mem_range.2 h1,tB_t h2⟩,rfl⟩
theorem Y6f {n k:Nat} (p:Nat→Bool) (hk:k < n):((List.range (k+1)).filter p).map (fun i:Nat=>(i:Int))=((List.range k).filter p).map (fun i:Nat=>(i:Int))++if p k=true then [(k:Int)] else []:=by
 rw [List.range_succ,List.filter_append,List.map_append];congr 1;by_cases q:p k=true
 ·rw [if_pos q,List.filter_cons_of_pos q]; rfl
 ·rw [if_neg q,List.filter_cons_of_neg q]; rfl
theorem Yci (hc:capsOK caps) (hG:GoodL caps l) (hl:l.length < 29000) (j:Int):Zq (caps,l,j)=some (if 0 ≤ j∧j < l.length then (pastOf caps l j.toNat,0) else ([],3)):=by
 have hlen:=Y3z caps l l.length;unfold Zq;simp only;rw [Y3v hc hG hl];simp only [Option.bind_some];rw [bif_f (by rfl),has_at,hlen];simp only [Option.bind_some];by_cases hj:0 ≤ j∧j < (l.length:Int)
 ·rw [tB_t hj,if_pos hj];obtain ⟨n,rfl⟩:∃ n:Nat,j=n:=⟨j.toNat,by omega⟩
  have key:=Y9s (f:=Z58) n (fun k=>((n:Int),(n:Int),(k:Int),(Y3w caps l l.length,owns l l.length),((List.range k).filter fun i=>tB (Hb caps l i n)).map fun i:Nat=>(i:Int))) (pastOf caps l n) (by
    intro k hk
    have hb:(((List.range k).filter fun i=>tB (Hb caps l i n)).map fun i:Nat=>(i:Int)).length ≤ k:=by
     rw [List.length_map];have:=List.length_filter_le (fun i=>tB (Hb caps l i n)) (List.range k);simpa using this
    unfold Z58;simp only;rw [bif_t (decide_eq_true (by omega)),Y2i hG hl (by omega) (by omega),wrapI (by omega) (by omega),Y6f _ hk];simp only [Option.bind_some];cases tB (Hb caps l k n) with
    | true=>rw [cond_true,bif_t (Y6o.2 (by simp only [List.length_cons,List.length_nil]; omega))]; rfl
    | false=>rw [cond_false,if_neg (by simp),List.append_nil]; rfl) (by
    unfold Z58;simp only;rw [bif_f (decide_eq_false (by omega))]; rfl) 0 (Nat.zero_le _)
  simp only [Bool.not_true,cond_false];rw [show loop Z58 ((n:Int),(n:Int),0,(Y3w caps l l.length,owns l l.length),[])=_ from key];rfl
 ·rw [tB_f hj,if_neg hj]; rfl
end
end Go.Proofs.YtifbgkikkiallaaGreat.VX.VxZ_Z
set_option maxHeartbeats 1000000
namespace Go.Proofs.YtifbgkikkiallaaGreat.VX.VxZ_Z
open Go.Proofs
section
variable {caps:List Int} {l:List Ev}
theorem Hb.lt {i j:Nat} (h:Hb caps l i j):i < j:=by have:=h.1.le; have:=h.2; omega
theorem Yd9 {i j:Nat} (h:Reach caps l i j):i=j ∨ ∃ k,i < k∧isE caps l i k∧Reach caps l k j:=by
 induction h with
 | refl=>exact .inl rfl
 | step h1 hk he ih =>
  rcases ih with rfl | ⟨k',h2,h3,h4⟩
  ·exact .inr ⟨_,hk,he,.refl _⟩
  ·exact .inr ⟨k',h2,h3,.step h4 hk he⟩
def frontP (caps:List Int) (l:List Ev) (i:Nat):Prop:=∀ j,i < j→j < l.length→¬ Hb caps l i j
noncomputable def Y78 (caps:List Int) (l:List Ev):List Int:=((List.range l.length).filter fun i=>tB (frontP caps l i)).map fun i:Nat=>(i:Int)
theorem Y7b (hG:GoodL caps l) (hl:l.length < 29000) (i:Nat) (hi:i < l.length) (out:List Int) :
  ∃ y,loop Z54 (l,(i:Int),((i+1:Nat):Int),(l.length:Int),(i:Int),(Y3w caps l l.length,owns l l.length),out)=some y ∧
   (¬ frontP caps l i∧y=.inl (l,(l.length:Int),(i:Int),(Y3w caps l l.length,owns l l.length),out) ∨ frontP caps l i∧y=.inr (l,(i:Int),(l.length:Int),(i:Int),(Y3w caps l l.length,owns l l.length),out)):=by
 refine Y9w (f:=Z54) (fun x=>∃ k:Nat,x=(l,(i:Int),(k:Int),(l.length:Int),(i:Int),(Y3w caps l l.length,owns l l.length),out)∧i < k∧k ≤ l.length∧∀ j,i < j→j < k→¬ Hb caps l i j) _ (fun x=>(x.2.2.2.1 - x.2.2.1).toNat) ?_ _ ⟨i+1,rfl,by omega,by omega,fun j h1 h2=>by omega⟩;rintro x ⟨k,rfl,h1,h2,h3⟩;unfold Z54;simp only;by_cases hk:k < l.length
 ·rw [bif_t (decide_eq_true (by omega)),Y2i hG hl hi hk];simp only [Option.bind_some];by_cases hb:Hb caps l i k
  ·rw [tB_t hb];exact .inr ⟨_,rfl,.inl ⟨fun q=>q k h1 hk hb,rfl⟩⟩
  ·rw [tB_f hb,wrapI (by omega) (by omega)];refine .inl ⟨_,rfl,⟨k+1,rfl,by omega,by omega,fun j h4 h5=>?_⟩,by simp only; omega⟩;by_cases e:j=k
   ·rw [e]; exact hb
   ·exact h3 j h4 (by omega)
 ·rw [bif_f (decide_eq_false (by omega))];exact .inr ⟨_,rfl,.inr ⟨fun j h4 h5=>h3 j h4 (by omega),rfl⟩⟩
theorem Y6e (p:Nat→Bool) (k:Nat):(((List.range k).filter p).map fun i:Nat=>(i:Int)).length ≤ k:=by
 rw [List.length_map];have:=List.length_filter_le p (List.range k);simpa using this
theorem Y7d (hc:capsOK caps) (hG:GoodL caps l) (hl:l.length < 29000):Zo (caps,l)=some (Y78 caps l,0):=by
 have key:=Y9s (f:=Z56) l.length (fun k=>(l,(l.length:Int),(k:Int),(Y3w caps l l.length,owns l l.length),((List.range k).filter fun i=>tB (frontP caps l i)).map fun i:Nat=>(i:Int))) (Y78 caps l) (by
   intro k hk;have hb:=Y6e (fun i=>tB (frontP caps l i)) k;unfold Z56;simp only;rw [bif_t (decide_eq_true (by omega)),wrapI (by omega) (by omega)];obtain ⟨y,h1,h2⟩:=Y7b hG hl k hk (((List.range k).filter fun i=>tB (frontP caps l i)).map fun i:Nat=>(i:Int));rw [show ((k:Int)+1)=((k+1:Nat):Int) by omega,h1,Y6f _ hk];simp only [Option.bind_some];rcases h2 with ⟨q,rfl⟩ | ⟨q,rfl⟩
   ·rw [if_neg (by rw [tB_f q]; simp),List.append_nil];simp only;rw [wrapI (by omega) (by omega)];rfl
   ·rw [if_pos (tB_t q)];simp only;rw [bif_t (Y6o.2 (by simp only [List.length_cons,List.length_nil]; omega)),wrapI (by omega) (by omega)];rfl) (by
   unfold Z56;simp only;rw [bif_f (decide_eq_false (by omega))]; rfl) 0 (Nat.zero_le _)
 unfold Zo;simp only;rw [Y3v hc hG hl];simp only [Option.bind_some];rw [bif_f (by rfl),show loop Z56 (l,((l.length:Nat):Int),0,(Y3w caps l l.length,owns l l.length),[])=_ from key];rfl
def metP (caps:List Int) (l:List Ev) (j i k:Nat):Prop:=k=j ∨ ∃ i',i ≤ i'∧k < i'∧isE caps l k i'∧Reach caps l i' j
noncomputable def rowB (n:Nat) (p:Nat→Prop):List Bool:=(List.range n).map fun k=>tB (p k)
theorem Ydv (n:Nat) (p:Nat→Prop):(rowB n p).length=n:=by unfold rowB; simp
theorem Ydt {n:Nat} (p:Nat→Prop) {k:Nat} (h:k < n) (z:k < (rowB n p).length):(rowB n p)[k]=tB (p k):=by
 have:(rowB n p)[k]?=some (tB (p k)):=by
  unfold rowB;rw [List.getElem?_map,List.getElem?_range h]; rfl
 rw [List.getElem?_eq_getElem z] at this;exact Option.some.inj this
theorem Ydw {n:Nat} (p:Nat→Prop) {k:Nat} (h:k < n):(rowB n p).set k true=rowB n (fun i=>p i ∨ i=k):=by
 apply List.ext_getElem?
 intro i;rw [List.getElem?_set];unfold rowB;by_cases e:k=i
 ·subst e;rw [if_pos rfl,if_pos (by simpa using h),List.getElem?_map,List.getElem?_range h];simp only [Option.map_some];rw [tB_t (.inr trivial)]
 ·rw [if_neg e,List.getElem?_map,List.getElem?_map];by_cases hi:i < n
  ·rw [List.getElem?_range hi];simp only [Option.map_some];rw [tB_eq (p:=p i) (q:=p i ∨ i=k) ⟨fun q=>.inl q,fun q=>q.resolve_right (fun z=>e z.symm)⟩]
  ·rw [List.getElem?_eq_none (by simp; omega)]; rfl
theorem Ydu {n:Nat} {p q:Nat→Prop} (h:∀ k,k < n→(p k ↔ q k)):rowB n p=rowB n q:=by
 unfold rowB;exact List.map_congr_left fun k hk=>tB_eq (h k (List.mem_range.1 hk))
theorem Yaf (n j i:Nat) (p:Nat→Prop) (es:List Int) (he:es.length < 60000) (hes:∀ k ∈ es,0 ≤ k∧k < (n:Int)) :
  loop Z62 (caps,l,(j:Int),(i:Int),es,(es.length:Int),0,rowB n p)=some (caps,l,(j:Int),(i:Int),rowB n (fun k=>p k ∨ (k:Int) ∈ es)):=by
 have key:=Y9s (f:=Z62) es.length (fun t=>(caps,l,(j:Int),(i:Int),es,(es.length:Int),(t:Int),rowB n (fun k=>p k ∨ (k:Int) ∈ es.take t))) (caps,l,(j:Int),(i:Int),rowB n (fun k=>p k ∨ (k:Int) ∈ es)) (by
   intro t ht;have hb:=hes es[t] (List.getElem_mem ht);obtain ⟨q,hq⟩:∃ q:Nat,es[t]=q:=⟨es[t].toNat,by omega⟩
   have hqn:q < n:=by omega
   unfold Z62;simp only;rw [bif_t (decide_eq_true (by omega)),bif_t (Y87 ht),Ygp,getAtL _ ht,hq,bif_t (Y87 (by rw [Ydv]; exact hqn)),wrapI (by omega) (by omega),Ygp,Ydw _ hqn]
   rw [Ydu (q:=fun k=>p k ∨ (k:Int) ∈ es.take (t+1)) (fun k _=>by
    rw [← List.take_append_getElem ht,List.mem_append,List.mem_singleton,hq];constructor
    ·rintro ((z | z) | z)
     ·exact .inl z
     ·exact .inr (.inl z)
     ·exact .inr (.inr (by omega))
    ·rintro (z | z | z)
     ·exact .inl (.inl z)
     ·exact .inl (.inr z)
     ·exact .inr (by omega))]
   rfl) (by
   unfold Z62;simp only;rw [bif_f (decide_eq_false (by omega)),List.take_length]) 0 (Nat.zero_le _)
 rw [← key];congr 1;rw [Ydu (q:=fun k=>p k ∨ (k:Int) ∈ es.take 0) (fun k _=>by simp)];rfl
theorem Y2e (hc:capsOK caps) (hG:GoodL caps l) (hl:l.length < 29000) (j:Nat) (hj:j < l.length):∀ i:Nat,i ≤ j+1 →
  loop Z68 (caps,l,(j:Int),(i:Int) - 1,rowB l.length (metP caps l j i))=some ((j:Int),rowB l.length (metP caps l j 0))
 | 0,_=>by
  rw [Y9t];unfold Z68;simp only;rw [bif_f (decide_eq_false (by omega))]
 | i+1,hi=>by
  have hil:i < l.length:=by omega
  have hmi:metP caps l j (i+1) i ↔ Reach caps l i j:=by
   constructor
   ·rintro (z | ⟨i',h1,h2,h3,h4⟩)
    ·rw [z]; exact .refl _
    ·exact Reach.trans (.step (.refl _) h2 h3) h4
   ·intro h;rcases Yd9 h with rfl | ⟨k,h1,h2,h3⟩
    ·exact .inl rfl
    ·exact .inr ⟨k,by omega,h1,h2,h3⟩
  rw [Y9t]
  have hf:Z68 (caps,l,(j:Int),((i+1:Nat):Int) - 1,rowB l.length (metP caps l j (i+1)))=some (.inl (caps,l,(j:Int),(i:Int) - 1,rowB l.length (metP caps l j i))):=by
   unfold Z68;simp only;rw [show ((i+1:Nat):Int) - 1=(i:Int) by omega,bif_t (decide_eq_true (by omega)),bif_t (Y87 (by rw [Ydv]; exact hil)),Ygp,getAtL _ (by rw [Ydv]; exact hil),Ydt _ hil];by_cases hr:Reach caps l i j
   ·rw [tB_t (hmi.2 hr),Ybv hc hG (by omega) hil];simp only [Bool.not_true,cond_false,Option.bind_some]
    rw [Yaf l.length j i _ _ (by have:=Y5m caps l i; omega) (fun k hk=>by
     obtain ⟨q,rfl,h1,_⟩:=Y5o.1 hk;omega)]
    simp only [Option.bind_some]
    rw [wrapI (by omega) (by omega),Ydu (q:=metP caps l j i) (fun k _=>by
     rw [Y5o];constructor
     ·rintro ((z | ⟨i',h1,h2⟩) | ⟨q,z,h1,h2⟩)
      ·exact .inl z
      ·exact .inr ⟨i',by omega,h2⟩
      ·have z:k=q:=by omega
       subst z;exact .inr ⟨i,Nat.le_refl _,h1,h2,hr⟩
     ·rintro (z | ⟨i',h1,h2,h3,h4⟩)
      ·exact .inl (.inl z)
      ·by_cases e:i'=i
       ·subst e; exact .inr ⟨k,rfl,h2,h3⟩
       ·exact .inl (.inr ⟨i',by omega,h2,h3,h4⟩))]
   ·rw [tB_f (fun q=>hr (hmi.1 q))];simp only [Bool.not_false,cond_true]
    rw [wrapI (by omega) (by omega),Ydu (q:=metP caps l j i) (fun k _=>by
     constructor
     ·rintro (z | ⟨i',h1,h2⟩)
      ·exact .inl z
      ·exact .inr ⟨i',by omega,h2⟩
     ·rintro (z | ⟨i',h1,h2,h3,h4⟩)
      ·exact .inl z
      ·by_cases e:i'=i
       ·subst e; exact absurd h4 hr
       ·exact .inr ⟨i',by omega,h2,h3,h4⟩)]
  rw [hf];simp only;exact Y2e hc hG hl j hj i (by omega)
theorem Ycg (hc:capsOK caps) (hG:GoodL caps l) (hl:l.length < 29000) {j:Nat} (hj:j < l.length):Z2g (caps,l,(j:Int))=some (pastOf caps l j):=by
 have k4:=Y9s (f:=Z66) l.length (fun t=>(caps,l,(j:Int),(l.length:Int),(t:Int),rowB t (fun _=>False))) (caps,l,(j:Int),rowB l.length (fun _=>False)) (by
   intro t ht;unfold Z66;simp only;rw [bif_t (decide_eq_true (by omega)),bif_t (Y6o.2 (by rw [Ydv]; simp only [List.length_cons,List.length_nil]; omega)),wrapI (by omega) (by omega)]
   have:rowB t (fun _=>False)++[false]=rowB (t+1) (fun _=>False):=by
    unfold rowB;rw [List.range_succ,List.map_append,List.map_cons,List.map_nil,tB_f (fun q=>q)]
   rw [this];rfl) (by
   unfold Z66;simp only;rw [bif_f (decide_eq_false (by omega))]) 0 (Nat.zero_le _)
 have h0:∀ i,i < j→(metP caps l j 0 i ↔ Hb caps l i j):=by
  intro i hi;constructor
  ·rintro (z | ⟨i',_,h2,h3,h4⟩)
   ·omega
   ·exact ⟨Reach.trans (.step (.refl _) h2 h3) h4,by omega⟩
  ·rintro ⟨h,h1⟩;rcases Yd9 h with z | ⟨k,h2,h3,h4⟩
   ·exact absurd z h1
   ·exact .inr ⟨k,by omega,h2,h3,h4⟩
 have k19:=Y9s (f:=Z64) j (fun t=>((j:Int),(t:Int),rowB l.length (metP caps l j 0),((List.range t).filter fun i=>tB (Hb caps l i j)).map fun i:Nat=>(i:Int))) (pastOf caps l j) (by
   intro t ht;have hb:=Y6e (fun i=>tB (Hb caps l i j)) t;unfold Z64;simp only;rw [bif_t (decide_eq_true (by omega)),bif_t (Y87 (by rw [Ydv]; omega)),Ygp,getAtL _ (by rw [Ydv]; omega),Ydt _ (by omega),wrapI (by omega) (by omega),tB_eq (h0 t ht),Y6f _ ht];cases tB (Hb caps l t j) with
   | true=>rw [cond_true,bif_t (Y6o.2 (by simp only [List.length_cons,List.length_nil]; omega))]; rfl
   | false=>rw [cond_false,if_neg (by simp),List.append_nil]; rfl) (by
   unfold Z64;simp only;rw [bif_f (decide_eq_false (by omega))]; rfl) 0 (Nat.zero_le _)
 unfold Z2g;simp only;rw [show loop Z66 (caps,l,(j:Int),((l.length:Nat):Int),0,[])=_ from k4];simp only [Option.bind_some];rw [bif_t (Y87 (by rw [Ydv]; exact hj)),Ygp,Ydw _ hj];have hb:=Y2e hc hG hl j hj (j+1) (Nat.le_refl _);rw [show ((j+1:Nat):Int) - 1=(j:Int) by omega] at hb
 rw [Ydu (q:=metP caps l j (j+1)) (fun k _=>by
  constructor
  ·rintro (z | z)
   ·exact z.elim
   ·exact .inl z
  ·rintro (z | ⟨i',h1,h2,h3,h4⟩)
   ·exact .inr z
   ·have:=h4.le; omega),hb]
 simp only [Option.bind_some];rw [show loop Z64 ((j:Int),0,rowB l.length (metP caps l j 0),[])=_ from k19];rfl
theorem Y2h (hc:capsOK caps) (hG:GoodL caps l) (hl:l.length < 29000) {i j:Nat} (hj:j < l.length):Z2c (caps,l,(i:Int),(j:Int))=some (tB (Hb caps l i j)):=by
 have hlen:=Yce caps l j;unfold Z2c;simp only;rw [Ycg hc hG hl hj];simp only [Option.bind_some]
 have hf:=Y9u (f:=Z5u) (pastOf caps l j) (fun x=>x == (i:Int)) (fun t=>((i:Int),pastOf caps l j,((pastOf caps l j).length:Int),(t:Int))) (fun _=>.inl true) (.inr ()) (by
   intro t ht;unfold Z5u;simp only;rw [bif_t (decide_eq_true (by omega)),bif_t (Y87 ht),Ygp,getAtL _ ht,wrapI (by omega) (by omega)];cases ((pastOf caps l j)[t] == (i:Int)) <;> rfl) (by
   unfold Z5u;simp only;rw [bif_f (decide_eq_false (by omega))])
 rw [show loop Z5u ((i:Int),pastOf caps l j,(((pastOf caps l j).length:Nat):Int),0)=_ from hf];cases hfi:(pastOf caps l j).findIdx? (fun x=>x == (i:Int)) with
 | none =>
  have h:=List.findIdx?_eq_none_iff.1 hfi;simp only [Option.bind_some];rw [tB_f];intro q;have:=h i (Ycf.2 ⟨i,rfl,q.lt,q⟩);simp at this
 | some k =>
  obtain ⟨h1,h2,_⟩:=List.findIdx?_eq_some_iff_getElem.1 hfi;simp only [Option.bind_some];have h3:(pastOf caps l j)[k]=(i:Int):=by simpa using h2
  obtain ⟨q,e,_,hq⟩:=Ycf.1 (List.getElem_mem h1);rw [h3] at e;obtain rfl:i=q:=by omega
  rw [tB_t hq]
theorem Y1q (hc:capsOK caps) (hG:GoodL caps l) (hl:l.length < 29000) {i j:Nat} (hi:i < l.length) (hj:j < l.length):Z2a (caps,l,(i:Int),(j:Int))=some (tB (¬ Reach caps l i j∧¬ Reach caps l j i)):=by
 unfold Z2a;simp only;by_cases e:i=j
 ·rw [bif_f (by simp [e]),tB_f (fun q=>q.1 (by rw [e]; exact .refl _))]
 rw [bif_t (bne_iff_ne.2 (by omega)),Y2h hc hG hl hj];simp only [Option.bind_some];by_cases a:Reach caps l i j
 ·rw [tB_t (p:=Hb caps l i j) ⟨a,e⟩,tB_f (fun q=>q.1 a)]; rfl
 ·rw [tB_f (p:=Hb caps l i j) (fun q=>a q.1),Y2h hc hG hl hi];simp only [Bool.not_false,cond_true,Option.bind_some];by_cases b:Reach caps l j i
  ·rw [tB_t (p:=Hb caps l j i) ⟨b,fun q=>e q.symm⟩,tB_f (fun q=>q.2 b)]; rfl
  ·rw [tB_f (p:=Hb caps l j i) (fun q=>b q.1),tB_t ⟨a,b⟩]; rfl
theorem Y7a (i:Nat):frontP caps l i ↔ ∀ j,i < j→j < l.length→¬ isE caps l i j:=by
 constructor
 ·intro h j h1 h2 h3;exact h j h1 h2 ⟨.step (.refl _) h1 h3,by omega⟩
 ·intro h j h1 h2 ⟨h3,h4⟩;rcases Yd9 h3 with z | ⟨k,h5,h6,h7⟩
  ·exact h4 z
  ·exact h k h5 (by have:=h7.le; omega) h6
theorem Y98 (i L a:Int) (out:List Int) (es:List Int) (he:es.length < 60000) (p:Prop) (j:Int) :
  loop Z5w (caps,l,i,tB p,j,L,a,es,(es.length:Int),0,out)=some (caps,l,i,tB (p∧i ∉ es),j,L,a,out):=by
 have key:=Y9s (f:=Z5w) es.length (fun t=>(caps,l,i,tB (p∧i ∉ es.take t),j,L,a,es,(es.length:Int),(t:Int),out)) (caps,l,i,tB (p∧i ∉ es),j,L,a,out) (by
   intro t ht;unfold Z5w;simp only;rw [bif_t (decide_eq_true (by omega)),bif_t (Y87 ht),Ygp,getAtL _ ht,wrapI (by omega) (by omega),← List.take_append_getElem ht];by_cases q:p∧i ∉ es.take t
   ·have e:(es[t] != i)=tB (p∧i ∉ es.take t++[es[t]]):=by
     rw [Ygc];refine tB_eq ?_;rw [List.mem_append,List.mem_singleton,not_or];exact ⟨fun z=>⟨q.1,q.2,fun y=>z y.symm⟩,fun z y=>z.2.2 y.symm⟩
    rw [tB_t q,cond_true,e];rfl
   ·rw [tB_f q,cond_false,tB_f (fun z=>q ⟨z.1,fun y=>z.2 (List.mem_append.2 (.inl y))⟩)];rfl) (by
   unfold Z5w;simp only;rw [bif_f (decide_eq_false (by omega)),List.take_length]) 0 (Nat.zero_le _)
 rw [← key,List.take_zero];simp
theorem Y79 (hc:capsOK caps) (hG:GoodL caps l) (hl:l.length < 29000):Z2e (caps,l)=some (Y78 caps l):=by
 have key:=Y9s (f:=Z5y) l.length (fun k=>(caps,l,(l.length:Int),(k:Int),((List.range k).filter fun i=>tB (frontP caps l i)).map fun i:Nat=>(i:Int))) (Y78 caps l) (by
   intro k hk;have hb:=Y6e (fun i=>tB (frontP caps l i)) k
   have k8:=Y9s (f:=Z60) l.length (fun j=>(caps,l,(k:Int),tB (∀ i,k < i→i < j→¬ isE caps l k i),(j:Int),(l.length:Int),(k:Int),((List.range k).filter fun i=>tB (frontP caps l i)).map fun i:Nat=>(i:Int)))
    (caps,l,(k:Int),tB (frontP caps l k),(l.length:Int),(k:Int),((List.range k).filter fun i=>tB (frontP caps l i)).map fun i:Nat=>(i:Int)) (by
     intro j hj;unfold Z60;simp only;rw [bif_t (decide_eq_true (by omega)),Ybv hc hG (by omega) hj];simp only [Option.bind_some];rw [Y98 _ _ _ _ _ (by have:=Y5m caps l j; omega)];simp only [Option.bind_some]
     rw [wrapI (by omega) (by omega),tB_eq (q:=∀ i,k < i→i < j+1→¬ isE caps l k i) (by
      constructor
      ·rintro ⟨h1,h2⟩ i h3 h4 h5;by_cases e:i=j
       ·subst e; exact h2 (Y5o.2 ⟨k,rfl,h3,h5⟩)
       ·exact h1 i h3 (by omega) h5
      ·intro h;refine ⟨fun i h3 h4=>h i h3 (by omega),fun q=>?_⟩;obtain ⟨q,e,h1,h2⟩:=Y5o.1 q;obtain rfl:k=q:=by omega
       exact h j h1 (by omega) h2)]
     rfl) (by
     unfold Z60;simp only;rw [bif_f (decide_eq_false (by omega)),tB_eq (Y7a (caps:=caps) (l:=l) k).symm]) (k+1) (by omega)
   unfold Z5y;simp only;rw [bif_t (decide_eq_true (by omega)),wrapI (by omega) (by omega),show true=tB (∀ i,k < i→i < k+1→¬ isE caps l k i) from (tB_t (fun i h1 h2=>by omega)).symm,show ((k:Int)+1)=((k+1:Nat):Int) by omega,k8,Y6f _ hk];simp only [Option.bind_some];rw [wrapI (by omega) (by omega)];cases tB (frontP caps l k) with
   | true=>rw [cond_true,bif_t (Y6o.2 (by simp only [List.length_cons,List.length_nil]; omega))]; rfl
   | false=>rw [cond_false,if_neg (by simp),List.append_nil]; rfl) (by
   unfold Z5y;simp only;rw [bif_f (decide_eq_false (by omega))]; rfl) 0 (Nat.zero_le _)
 unfold Z2e;simp only;rw [show loop Z5y (caps,l,((l.length:Nat):Int),0,[])=_ from key];rfl
end
end Go.Proofs.YtifbgkikkiallaaGreat.VX.VxZ_Z
set_option maxHeartbeats 1000000
namespace Go.Proofs.YtifbgkikkiallaaGreat.VX.VxZ_Z
open Go.Proofs
abbrev al17:List Ev:=[((0:Int),(0:Int),(0:Int),(0:Int),(-1:Int)),(0,1,1,0,-1),(1,0,0,0,1),(0,16,0,0,-1)]
theorem goodP {caps:List Int} {l:List Ev} {e:Ev} (hs:shapeE l e) (k0:e.2.1 ≠ 0) (hl:lastE e.1 l 0 ≠ 0) (hN:e.2.2.2.1=0) (ho:e.2.1 ≠ 1→0 ≤ e.2.2.1∧e.2.2.1 < objK caps e.2.1) (hb:¬ begK e.2.1) (hS:e.2.2.2.2=-1) (hr:ruleE caps l e):goodE caps l e:=by
 refine ⟨hs,?_⟩;rw [if_neg k0];refine ⟨hl,fun _=>hN,ho,?_,hr⟩;unfold fromE;rw [if_neg hb]; exact hS
theorem good17:GoodL [] al17:=by
 intro i hi;have hi:i < 4:=hi
 match i,hi with
 | 0,_ =>
  show goodE [] [] (0,0,0,0,-1);refine ⟨⟨by decide,by decide,by decide,by decide,by decide,by decide,by decide⟩,?_⟩;rw [if_pos (by rfl)];exact ⟨rfl,rfl,rfl,by rw [if_pos (by rfl)]⟩
 | 1,_ =>
  show goodE [] [(0,0,0,0,-1)] (0,1,1,0,-1);refine goodP ⟨by decide,by decide,by decide,by decide,by decide,by decide,by decide⟩ (by decide) (by decide) rfl (fun q=>absurd rfl q) (by decide) rfl ?_;refine ⟨fun _=>rfl,?_,?_,?_,?_,?_,?_,?_,?_⟩ <;> exact fun q=>absurd q (by decide)
 | 2,_ =>
  show goodE [] [(0,0,0,0,-1),(0,1,1,0,-1)] (1,0,0,0,1);refine ⟨⟨by decide,by decide,by decide,by decide,by decide,by decide,by decide⟩,?_⟩;rw [if_pos (by rfl)];refine ⟨rfl,rfl,rfl,?_⟩;rw [if_neg (by decide)];exact ⟨by decide,rfl,rfl⟩
 | 3,_ =>
  show goodE [] [(0,0,0,0,-1),(0,1,1,0,-1),(1,0,0,0,1)] (0,16,0,0,-1);refine goodP ⟨by decide,by decide,by decide,by decide,by decide,by decide,by decide⟩ (by decide) (by decide) rfl (fun _=>⟨by decide,by decide⟩) (by decide) rfl ?_;refine ⟨?_,?_,?_,?_,?_,?_,?_,?_,?_⟩ <;> exact fun q=>absurd q (by decide)
theorem Y1g:Zy ()=some true:=by
 have hb:=Y2k (caps:=[]) ⟨by decide,by simp⟩ good17 (by decide) 0 2;have ha:=Y1s (caps:=[]) ⟨by decide,by simp⟩ good17 (by decide) 2 3;rw [if_pos (by decide)] at hb ha;have r01:Reach [] al17 0 1:=.step (.refl _) (by decide) (.inl rfl);have r02:Reach [] al17 0 2:=.step r01 (by decide) (.inr (.inl ⟨rfl,rfl⟩))
 have n23:¬ Reach [] al17 2 3:=by
  intro h;rcases Yd9 h with q | ⟨k,h1,h2,h3⟩
  ·cases q
  ·have:=h3.le;obtain rfl:k=3:=by omega
   rcases h2 with q | q | q | q | q | q | q
   ·exact absurd q (by show ¬ (((2:Nat):Int)+1=((2:Nat):Int)); omega)
   ·exact absurd q.1 (by decide)
   ·exact absurd q.1 (by decide)
   ·exact absurd q.1 (by decide)
   ·exact absurd q.1 (by decide)
   ·exact absurd q.1 (by decide)
   ·exact absurd q.1 (by decide)
 have n32:¬ Reach [] al17 3 2:=fun h=>absurd h.le (by decide)
 rw [tB_t (p:=Hb [] al17 (0:Int).toNat (2:Int).toNat) ⟨r02,by decide⟩] at hb;rw [tB_t (p:=¬ Reach [] al17 (2:Int).toNat (3:Int).toNat∧¬ Reach [] al17 (3:Int).toNat (2:Int).toNat) ⟨n23,n32⟩] at ha;have hb:Zm ([],[((0:Int),(0:Int),(0:Int),(0:Int),(Int.negSucc 0)),(0,1,1,0,Int.negSucc 0),(1,0,0,0,1),(0,16,0,0,Int.negSucc 0)],0,2)=some (true,0):=hb;have ha:Zk ([],[((0:Int),(0:Int),(0:Int),(0:Int),(Int.negSucc 0)),(0,1,1,0,Int.negSucc 0),(1,0,0,0,1),(0,16,0,0,Int.negSucc 0)],2,3)=some (true,0):=ha;unfold Zy;rw [hb,ha];rfl
theorem Y67 (l:List Ev):Z10 l=some (l.take 60):=by
 unfold Z10;rw [bif_t (sub3L.2 ⟨by omega,by omega,by omega⟩),Y4x l 60 60 rfl]
theorem Y84 (i n:Int):Z12 (i,n)=some (tB (0 ≤ i∧i < n)):=by
 unfold Z12;simp only;by_cases h:i ≥ 0
 ·rw [bif_t (decide_eq_true h),tB_dec];exact Yfk ⟨fun q=>⟨h,q⟩,fun q=>q.2⟩
 ·rw [bif_f (decide_eq_false h),tB_f (fun q=>h q.1)]
section
variable {caps:List Int} {l:List Ev}
theorem Y2j (hn:caps.length < 30000) (hl:l.length < 29000) (h:¬ (capsOK caps∧GoodL caps l)) (i j:Int):Zm (caps,l,i,j)=some (false,1):=by
 unfold Zm;simp only;rw [Y3u hn hl h]; rfl
theorem Y1r (hn:caps.length < 30000) (hl:l.length < 29000) (h:¬ (capsOK caps∧GoodL caps l)) (i j:Int):Zk (caps,l,i,j)=some (false,1):=by
 unfold Zk;simp only;rw [Y3u hn hl h]; rfl
theorem Ych (hn:caps.length < 30000) (hl:l.length < 29000) (h:¬ (capsOK caps∧GoodL caps l)) (j:Int):Zq (caps,l,j)=some ([],1):=by
 unfold Zq;simp only;rw [Y3u hn hl h]; rfl
theorem Y7c (hn:caps.length < 30000) (hl:l.length < 29000) (h:¬ (capsOK caps∧GoodL caps l)):Zo (caps,l)=some ([],1):=by
 unfold Zo;simp only;rw [Y3u hn hl h]; rfl
end
theorem orderTells_law (caps:List Int) (l:List Ev) (i j:Int):F_plaitlaw17_OrderTells (caps,l,i,j)=some true:=by
 have hln:(l.take 60).length ≤ 60:=by simp; omega
 have hcn:(caps.take 6).length ≤ 6:=by simp; omega
 unfold F_plaitlaw17_OrderTells;simp only;rw [bif_t (sub3L.2 ⟨by omega,by omega,by omega⟩),Y67,Y4x caps 6 6 rfl];simp only [Option.bind_some,Y1g,Y84];generalize l.take 60=l at *;generalize caps.take 6=caps at *;rw [Yah caps l (by omega) (by omega)];by_cases h:capsOK caps∧GoodL caps l
 case neg =>
  rw [Y2j (by omega) (by omega) h,Y1r (by omega) (by omega) h,Ych (by omega) (by omega) h,Y7c (by omega) (by omega) h,tB_f h];rfl
 obtain ⟨hc,hG⟩:=h;have hl:l.length < 29000:=by omega
 have hfl:(Y78 caps l).length < 30000:=by have:=Y6e (fun i=>tB (frontP caps l i)) l.length; unfold Y78; omega
 rw [Y2k hc hG hl,Y1s hc hG hl,Yci hc hG hl,Y7d hc hG hl,tB_t (p:=capsOK caps∧GoodL caps l) ⟨hc,hG⟩,Y79 hc hG hl];simp only [Option.bind_some,Bool.not_true,cond_false];rw [bif_f (by rfl),Ye3 _ hfl];simp only [Option.bind_some,Bool.not_true,cond_false];by_cases hj:0 ≤ j∧j < (l.length:Int)
 case neg =>
  rw [tB_f hj,if_neg (fun q=>hj q.2),if_neg (fun q=>hj q.2),if_neg hj];rfl
 obtain ⟨m,rfl⟩:∃ m:Nat,j=m:=⟨j.toNat,by omega⟩
 have hm:m < l.length:=by omega
 rw [tB_t hj,if_pos hj,Ycg hc hG hl hm,show ((m:Int)).toNat=m from rfl];simp only [Option.bind_some,Bool.not_true,cond_false];rw [bif_f (by rfl),Ye3 _ (by have:=Yce caps l m; omega)];simp only [Option.bind_some,Bool.not_true,cond_false];by_cases hi:0 ≤ i∧i < (l.length:Int)
 case neg =>
  rw [tB_f hi,if_neg (fun q=>hi q.1),if_neg (fun q=>hi q.1)];rfl
 obtain ⟨n,rfl⟩:∃ n:Nat,i=n:=⟨i.toNat,by omega⟩
 have hn:n < l.length:=by omega
 rw [tB_t hi,if_pos ⟨hi,hj⟩,if_pos ⟨hi,hj⟩,Y2h hc hG hl hm,Y1q hc hG hl hn hm,show ((n:Int)).toNat=n from rfl];cases tB (Hb caps l n m) <;> cases tB (¬ Reach caps l n m∧¬ Reach caps l m n) <;> rfl
end Go.Proofs.YtifbgkikkiallaaGreat.VX.VxZ_Z

