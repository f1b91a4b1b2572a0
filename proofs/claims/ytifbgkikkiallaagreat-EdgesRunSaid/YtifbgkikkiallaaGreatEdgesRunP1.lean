import Derived.Test.YtifbgkikkiallaaGreatEdgesRunP0
set_option linter.unusedVariables false
set_option linter.unusedSimpArgs false
namespace Go.Proofs.YtifbgkikkiallaaGreat.VX.VxZ_Z
open Go.Proofs
abbrev In:=Int × (Int × Int)
abbrev Cs:=Bool × Int
abbrev Sl:=List Cs × Bool
abbrev Pg:=List Int × (Int × (Int × (Int × (List Sl × List (List In)))))
def zIn:In:=(0,0,0)
def zSl:Sl:=([],false)
def inP (n lo hi:Int):Bool:=decide (lo <= n) && decide (n <= hi)
theorem in_eq (n lo hi:Int):Z4l (n,lo,hi)=some (inP n lo hi):=by
 unfold Z4l inP;simp only;by_cases h:lo <= n
 ·rw[bif_t (by simpa using h),dT9 h]; rfl
 ·rw[bif_f (by simpa using h),dF9 h]; rfl
theorem Y39 (l:List Int) (hl:l.length < 9223372036854775808):Z6r l=some (l.any fun n=>!inP n (-1) 3):=by
 unfold Z6r Z7f
 have:=Yar (f:=Zb7) l (fun n=>!inP n (-1) 3) (fun k=>(l,(l.length:Int),(k:Int))) (fun k=>.inl (k:Int)) (.inr ()) (by
  intro k hk;unfold Zb7 Z52;simp only;rw[bif_t (by simpa using hk),bif_t (Y8t hk),Yk0,getAtL _ hk,in_eq];simp only[bS9];rw[wrapI (by omega) (by omega)];show (bif !inP l[k] (-1) 3 then _ else _)=_;cases h:inP l[k] (-1) 3 <;> rfl) (by
  unfold Zb7;simp only;rw[bif_f (by simp)])
 rw[show loop Zb7 (l,(l.length:Int),(0:Int))=_ from this,<- List.findIdx?_isSome];cases l.findIdx? fun n=>!inP n (-1) 3 with
 | none=>rfl
 | some i=>simp
theorem Y3h (l:List Cs) (p:Pg) (hl:l.length < 9223372036854775808) (hp:p.1.length < 9223372036854775808):Z6f (l,p)=some (l.any (fun c=>!inP c.2 0 ((p.1.length:Int) - 1)),p):=by
 unfold Z6f Z6z
 have:=Yar (f:=Zar) l (fun c=>!inP c.2 0 ((p.1.length:Int) - 1)) (fun k=>(l,(l.length:Int),(k:Int),p)) (fun k=>.inl ((k:Int),p)) (.inr p) (by
  intro k hk;unfold Zar Z54;simp only;rw[bif_t (by simpa using hk),bif_t (Y8t hk),Yk0,getAtL _ hk,in_eq,wrapI (n:=(p.1.length:Int) - 1) (by omega) (by omega)];simp only[bS9];rw[wrapI (by omega) (by omega)];cases h:inP l[k].2 0 ((p.1.length:Int) - 1) <;> rfl) (by
  unfold Zar;simp only;rw[bif_f (by simp)])
 simp only;rw[show loop Zar (l,(l.length:Int),(0:Int),p)=_ from this,<- List.findIdx?_isSome];cases l.findIdx? fun c=>!inP c.2 0 ((p.1.length:Int) - 1) with
 | none=>rfl
 | some i=>simp
def small (p:Pg):Prop:=p.1.length < 9223372036854775808/\p.2.2.2.2.1.length < 9223372036854775808/\p.2.2.2.2.2.length < 9223372036854775808/\(∀ s ∈ p.2.2.2.2.1,s.1.length < 9223372036854775808)/\∀ b ∈ p.2.2.2.2.2,b.length < 9223372036854775808
def Yi4 (p:Pg):Bool:=decide (p.1.length <= 4) && (inP p.2.1 0 2 && (inP p.2.2.1 0 2 && (inP p.2.2.2.1 0 4 && (decide (p.2.2.2.2.1.length <= 4) && inP (p.2.2.2.2.2.length:Int) 1 6))))
def selErr (p:Pg) (k:Nat):Option (Int × Int):=if 4 < (p.2.2.2.2.1.getD k zSl).1.length then some ((k:Int),2) else if (p.2.2.2.2.1.getD k zSl).1.any (fun c=>!inP c.2 0 ((p.1.length:Int) - 1)) then some ((k:Int),3) else none
def Yjl (p:Pg):Int × Int:=if Yi4 p=false then (-1,2) else if p.1.any (fun n=>!inP n (-1) 3) then (-1,3) else ((List.range p.2.2.2.2.1.length).findSome? (selErr p)).getD (-1,0)
theorem Y7y {α:Type} {l:List α} {k:Nat} (h:k < l.length) (z:α):l.getD k z=l[k]:=by simp[List.getD,h]
theorem Yjm (p:Pg) (hs:small p):Z51 p=some (Yjl p):=by
 obtain ⟨s1,s2,s3,s4,s5⟩:=hs
 have hloop:=Yas (f:=Zaj) p.2.2.2.2.1.length (fun k=>(p.2.2.2.2.1,(p.2.2.2.2.1.length:Int),(k:Int),p)) (fun k=>(selErr p k).map .inl) (.inr ()) (by
  intro k hk;unfold Zaj;simp only;have hg:getAt (([]:List (Bool × Int)),false) p.2.2.2.2.1 k=p.2.2.2.2.1.getD k zSl:=Y7v _ _ _;have hm:(p.2.2.2.2.1.getD k zSl).1.length < 9223372036854775808:=s4 _ (by rw[Y7y hk]; exact gm9 hk);rw[bif_t (by simpa using hk),bif_t (Y8t hk),Yk0,hg,Y3h _ _ (by omega) (by omega),wrapI (by omega) (by omega)];simp only[bS9];unfold selErr;by_cases h1:4 < (p.2.2.2.2.1.getD k zSl).1.length
  ·rw[bif_t (dT9 (by omega)),if_pos h1]; rfl
  ·rw[bif_f (dF9 (by omega)),if_neg h1];cases h2:(p.2.2.2.2.1.getD k zSl).1.any (fun c=>!inP c.2 0 ((p.1.length:Int) - 1)) <;> rfl) (by
  unfold Zaj;simp only;rw[bif_f (by simp)])
 unfold Z51 Yjl Yi4;simp only[in_eq,bS9];by_cases h1:p.1.length <= 4
 ·rw[bif_t (by simp; omega),dT9 h1];cases h2:inP p.2.1 0 2 with
  | false=>rfl
  | true =>
   cases h3:inP p.2.2.1 0 2 with
   | false=>rfl
   | true =>
    cases h4:inP p.2.2.2.1 0 4 with
    | false=>rfl
    | true =>
     by_cases h5:p.2.2.2.2.1.length <= 4
     ·rw[dT9 h5];show (bif decide ((p.2.2.2.2.1.length:Int) > 4) then _ else _)=_;rw[bif_f (by simp; omega)];cases h6:inP (p.2.2.2.2.2.length:Int) 1 6 with
      | false=>rfl
      | true =>
       simp only[Bool.not_true,cond_false,Bool.and_self,Bool.true_eq_false,if_false];rw[Y39 _ (by omega)];simp only[bS9];cases h7:p.1.any (fun n=>!inP n (-1) 3) with
       | true=>rfl
       | false =>
        simp only[cond_false,Bool.false_eq_true,if_false];rw[show loop Zaj (p.2.2.2.2.1,(p.2.2.2.2.1.length:Int),(0:Int),p)=_ from hloop]
        have:∀ (l:List Nat),l.findSome? (fun k=>(selErr p k).map (Sum.inl (β:=Unit)))=(l.findSome? (selErr p)).map .inl:=by
         intro l;induction l with
         | nil=>rfl
         | cons a l ih =>
          rw[List.findSome?_cons,List.findSome?_cons,ih];cases selErr p a <;> rfl
        rw[this];cases (List.range p.2.2.2.2.1.length).findSome? (selErr p) <;> rfl
     ·rw[dF9 h5];show (bif decide ((p.2.2.2.2.1.length:Int) > 4) then _ else _)=_;rw[bif_t (by simp; omega)]; rfl
 ·rw[bif_f (by simp; omega),dF9 h1]; rfl
def mostP (p:Pg) (b:List In) (op:Int):Int :=
 if op=0 then 1 else if op=1 then p.1.length else if op=2 then p.1.length else if op=3 then p.1.length else if op=4 then p.2.2.2.2.1.length else if op=5 then p.2.1 else if op=6 then p.2.1 else if op=7 then p.2.2.1 else if op=8 then p.2.2.1
 else if op=9 then p.2.2.2.2.2.length else if op=10 then p.2.2.2.1 else if op=11 then p.2.2.2.1 else b.length+1
def instrP (p:Pg) (b:List In) (i:In):Int :=
 if inP i.1 0 13=false then 11 else if inP i.2.1 0 (mostP p b i.1 - 1)=false \/ inP i.2.2 0 (if i.1=7 then b.length else 0)=false then 3 else 0
def okN (p:Pg):Prop:=(0 <= p.2.1/\p.2.1 <= 1000)/\(0 <= p.2.2.1/\p.2.2.1 <= 1000)/\(0 <= p.2.2.2.1/\p.2.2.2.1 <= 1000)
theorem ops_eq:Z4v ()=some ():=rfl
theorem Y97 (p:Pg) (b:List In) (i:In) (hs:small p) (hn:okN p) (hb:b.length < 4611686018427387904):Z4n (p,b,i)=some (instrP p b i):=by
 obtain ⟨s1,s2,s3,s4,s5⟩:=hs;obtain ⟨n1,n2,n3⟩:=hn;unfold Z4n instrP;simp only[in_eq,bS9,ops_eq,Z4r,Z4j,Z4z,Z4p,Z4t,Z4h,Z57,Z4x];cases h0:inP i.1 0 13 with
 | false=>rfl
 | true =>
  have hr:0 <= i.1/\i.1 <= 13:=by unfold inP at h0; simpa using h0
  have fin:∀ (a c:Bool) (X:Option Int),X=(bif !a then some (3:Int) else bif !c then some 3 else some 0)->X=some (if a=false \/ c=false then 3 else 0):=by
   intro a c X hX; rw[hX]; cases a <;> cases c <;> rfl
  simp only[Bool.not_true,cond_false,Bool.true_eq_false,if_false];have hop:i.1=0 \/ i.1=1 \/ i.1=2 \/ i.1=3 \/ i.1=4 \/ i.1=5 \/ i.1=6 \/ i.1=7 \/ i.1=8 \/ i.1=9 \/ i.1=10 \/ i.1=11 \/ i.1=12 \/ i.1=13:=by omega
  have w1:IntKind.wrap .i64 ((1:Int) - 1)=0:=wrapI (by omega) (by omega);have w2:IntKind.wrap .i64 ((p.1.length:Int) - 1)=(p.1.length:Int) - 1:=wrapI (by omega) (by omega);have w3:IntKind.wrap .i64 ((p.2.2.2.2.1.length:Int) - 1)=(p.2.2.2.2.1.length:Int) - 1:=wrapI (by omega) (by omega);have w4:IntKind.wrap .i64 (p.2.1 - 1)=p.2.1 - 1:=wrapI (by omega) (by omega);have w5:IntKind.wrap .i64 (p.2.2.1 - 1)=p.2.2.1 - 1:=wrapI (by omega) (by omega);have w6:IntKind.wrap .i64 ((p.2.2.2.2.2.length:Int) - 1)=(p.2.2.2.2.2.length:Int) - 1:=wrapI (by omega) (by omega);have w7:IntKind.wrap .i64 (p.2.2.2.1 - 1)=p.2.2.2.1 - 1:=wrapI (by omega) (by omega);have w8:IntKind.wrap .i64 ((b.length:Int)+1)=(b.length:Int)+1:=wrapI (by omega) (by omega);have w9:IntKind.wrap .i64 ((b.length:Int)+1 - 1)=(b.length:Int)+1 - 1:=wrapI (by omega) (by omega);simp only[w1,w2,w3,w4,w5,w6,w7,w8,w9]
  rcases hop with h | h | h | h | h | h | h | h | h | h | h | h | h | h <;> (rw[h]; exact fin _ _ _ rfl)
def blkErr (p:Pg) (b:Nat):Option (Int × Int × Int):=if 24 < (p.2.2.2.2.2.getD b []).length then some ((b:Int),-1,2) else
 (List.range (p.2.2.2.2.2.getD b []).length).findSome? fun k=>if instrP p (p.2.2.2.2.2.getD b []) ((p.2.2.2.2.2.getD b []).getD k zIn)=0 then none else some ((b:Int),(k:Int),instrP p (p.2.2.2.2.2.getD b []) ((p.2.2.2.2.2.getD b []).getD k zIn))
def wrongP (p:Pg):Int × Int × Int:=if (Yjl p).2=0 then ((List.range p.2.2.2.2.2.length).findSome? (blkErr p)).getD (-1,-1,0) else (-1,(Yjl p).1,(Yjl p).2)
theorem Y6q {α β γ:Type} (f:β->γ) (g:α->Option β):∀ (l:List α),l.findSome? (fun k=>(g k).map f)=(l.findSome? g).map f
 | []=>rfl
 | a :: l=>by
  rw[List.findSome?_cons,List.findSome?_cons,Y6q f g l];cases g a <;> rfl
theorem Yi5 {p:Pg} (h:(Yjl p).2=0):Yi4 p=true:=by
 unfold Yjl at h;cases hs:Yi4 p with
 | true=>rfl
 | false=>rw[hs,if_pos rfl] at h; cases h
theorem Yi6 {p:Pg} (h:Yi4 p=true):okN p:=by
 unfold Yi4 inP at h;simp only[ba9,decide_eq_true_eq] at h;exact ⟨⟨by omega,by omega⟩,⟨by omega,by omega⟩,⟨by omega,by omega⟩⟩
theorem Ykq (p:Pg) (hs:small p):Z4f p=some (wrongP p):=by
 unfold Z4f wrongP;rw[Yjm p hs];simp only[bS9];by_cases ht:(Yjl p).2=0
 ·rw[bif_f (by simpa using ht),if_pos ht];have hn:=Yi6 (Yi5 ht);obtain ⟨s1,s2,s3,s4,s5⟩:=hs
  have hout:=Yas (f:=Zah) p.2.2.2.2.2.length (fun b=>(p.2.2.2.2.2,(p.2.2.2.2.2.length:Int),(b:Int),p)) (fun b=>(blkErr p b).map .inl) (.inr ()) (by
   intro b hb;unfold Zah;simp only;have hg:getAt ([]:List (Int × (Int × Int))) p.2.2.2.2.2 b=p.2.2.2.2.2.getD b []:=Y7v _ _ _;have hm:(p.2.2.2.2.2.getD b []).length < 9223372036854775808:=s5 _ (by rw[Y7y hb]; exact gm9 hb);rw[bif_t (by simpa using hb),bif_t (Y8t hb),Yk0,hg];unfold blkErr;generalize p.2.2.2.2.2.getD b []=bl at *;by_cases h1:24 < bl.length
   ·rw[bif_t (dT9 (by omega)),if_pos h1]; rfl
   ·rw[bif_f (dF9 (by omega)),if_neg h1]
    have hin:=Yas (f:=Zaf) bl.length (fun k=>((b:Int),bl,p.2.2.2.2.2,(p.2.2.2.2.2.length:Int),(b:Int),bl,(bl.length:Int),(k:Int),p)) (fun k=>(if instrP p bl (bl.getD k zIn)=0 then none else some ((b:Int),(k:Int),instrP p bl (bl.getD k zIn))).map .inl) (.inr (p.2.2.2.2.2,(p.2.2.2.2.2.length:Int),(b:Int),p)) (by
     intro k hk;unfold Zaf;simp only;have hg:getAt ((0:Int),((0:Int),(0:Int))) bl k=bl.getD k zIn:=Y7v _ _ _;rw[bif_t (by simpa using hk),bif_t (Y8t hk),Yk0,hg,Y97 p bl _ ⟨s1,s2,s3,s4,s5⟩ hn (by omega),wrapI (by omega) (by omega)];simp only[bS9];by_cases h2:instrP p bl (bl.getD k zIn)=0
     ·rw[bif_f (by simp only[h2]; rfl),if_pos h2]; rfl
     ·rw[bif_t (by simpa using h2),if_neg h2]; rfl) (by
     unfold Zaf;simp only;rw[bif_f (by simp)])
    rw[show loop Zaf ((b:Int),bl,p.2.2.2.2.2,(p.2.2.2.2.2.length:Int),(b:Int),bl,(bl.length:Int),(0:Int),p)=_ from hin,Y6q];cases (List.range bl.length).findSome? (fun k=>if instrP p bl (bl.getD k zIn)=0 then none else some ((b:Int),(k:Int),instrP p bl (bl.getD k zIn))) with
    | none =>
     simp only[Option.map_none,Option.getD_none,bS9];rw[wrapI (by omega) (by omega)]; rfl
    | some y=>rfl) (by
   unfold Zah;simp only;rw[bif_f (by simp)])
  rw[show loop Zah (p.2.2.2.2.2,(p.2.2.2.2.2.length:Int),(0:Int),p)=_ from hout,Y6q];cases (List.range p.2.2.2.2.2.length).findSome? (blkErr p) <;> rfl
 ·rw[bif_t (by simpa using ht),if_neg ht]; rfl
def rightP (p:Pg):Prop:=(wrongP p).2.2=0
instance (p:Pg):Decidable (rightP p):=by unfold rightP; infer_instance
theorem Ye2 (p:Pg) (hs:small p):Z4d p=some (decide (rightP p)):=by
 unfold Z4d;rw[Ykq p hs];simp only[bS9];unfold rightP;by_cases h:(wrongP p).2.2=0
 ·rw[dT9 h,h]; rfl
 ·rw[dF9 h,beq_eq_false_iff_ne.2 h]
theorem Y6r {α β:Type} {g:α->Option β} {l:List α} (h:l.findSome? g=none):∀ x ∈ l,g x=none:=by
 intro x hx;exact List.findSome?_eq_none_iff.1 h x hx
structure RightP (p:Pg):Prop where
 sizes:Yi4 p=true
 caps:∀ n ∈ p.1,-1 <= n/\n <= 3
 sels:∀ s ∈ p.2.2.2.2.1,s.1.length <= 4/\∀ c ∈ s.1,0 <= c.2/\c.2 < p.1.length
 blks:∀ b ∈ p.2.2.2.2.2,b.length <= 24/\∀ i ∈ b,instrP p b i=0
theorem Ybl {α:Type} {l:List α} {x:α} (h:x ∈ l) (z:α):∃ k,k < l.length/\l.getD k z=x:=by
 obtain ⟨k,hk,e⟩:=List.mem_iff_getElem.1 h;exact ⟨k,hk,by rw[Y7y hk,e]⟩
theorem Yhd {p:Pg} {k:Nat} {y:Int × Int} (h:selErr p k=some y):y.2 ≠ 0:=by
 unfold selErr at h;split at h
 ·cases h; show (2:Int) ≠ 0; decide
 ·split at h
  ·cases h; show (3:Int) ≠ 0; decide
  ·cases h
theorem Y2m {p:Pg} {k:Nat} {y:Int × Int × Int} (h:blkErr p k=some y):y.2.2 ≠ 0:=by
 unfold blkErr at h;split at h
 ·cases h; show (2:Int) ≠ 0; decide
 ·obtain ⟨l1,a,l2,h1,h2,h3⟩:=List.findSome?_eq_some_iff.1 h;split at h2
  ·cases h2
  ·cases h2; assumption
theorem Yg1 (p:Pg):rightP p ↔ RightP p:=by
 constructor
 ·intro h;unfold rightP wrongP at h;split at h
  ·rename_i ht;have hz:=Yi5 ht
   have hb:(List.range p.2.2.2.2.2.length).findSome? (blkErr p)=none:=by
    cases hq:(List.range p.2.2.2.2.2.length).findSome? (blkErr p) with
    | none=>rfl
    | some y =>
     rw[hq] at h;obtain ⟨l1,a,l2,h1,h2,h3⟩:=List.findSome?_eq_some_iff.1 hq;exact absurd h (Y2m h2)
   unfold Yjl at ht;rw[hz,if_neg (by simp)] at ht;cases hc:p.1.any (fun n=>!inP n (-1) 3) with
   | true=>rw[hc,if_pos rfl] at ht; cases ht
   | false =>
    rw[hc,if_neg (by simp)] at ht
    have hsel:(List.range p.2.2.2.2.1.length).findSome? (selErr p)=none:=by
     cases hq:(List.range p.2.2.2.2.1.length).findSome? (selErr p) with
     | none=>rfl
     | some y =>
      rw[hq] at ht;obtain ⟨l1,a,l2,h1,h2,h3⟩:=List.findSome?_eq_some_iff.1 hq;exact absurd ht (Yhd h2)
    refine ⟨hz,fun n hn=>?_,fun s hs=>?_,fun b hbm=>?_⟩
    ·have:=List.any_eq_false.1 hc n hn;unfold inP at this;simpa using this
    ·obtain ⟨k,hk,e⟩:=Ybl hs zSl;have:=Y6r hsel k (List.mem_range.2 hk);unfold selErr at this;rw[e] at this;split at this
     ·cases this
     ·rename_i h4;split at this
      ·cases this
      ·rename_i h5;refine ⟨by omega,fun c hcm=>?_⟩;have h6:s.1.any (fun c=>!inP c.2 0 ((p.1.length:Int) - 1))=false:=by simpa using h5
       have:=List.any_eq_false.1 h6 c hcm;unfold inP at this;simp only[Bool.not_eq_true,Bool.not_eq_false',ba9,decide_eq_true_eq] at this;omega
    ·obtain ⟨k,hk,e⟩:=Ybl hbm [];have:=Y6r hb k (List.mem_range.2 hk);unfold blkErr at this;rw[e] at this;split at this
     ·cases this
     ·rename_i h4;refine ⟨by omega,fun i hi=>?_⟩;obtain ⟨j,hj,e2⟩:=Ybl hi zIn;have:=Y6r this j (List.mem_range.2 hj);rw[e2] at this;split at this
      ·assumption
      ·cases this
  ·rename_i ht; exact absurd h ht
 ·rintro ⟨h1,h2,h3,h4⟩
  have hc:p.1.any (fun n=>!inP n (-1) 3)=false:=by
   rw[List.any_eq_false];intro n hn;have:=h2 n hn;unfold inP;simp; omega
  have hsel:(List.range p.2.2.2.2.1.length).findSome? (selErr p)=none:=by
   rw[List.findSome?_eq_none_iff];intro k hk;have hk:=List.mem_range.1 hk;obtain ⟨q1,q2⟩:=h3 (p.2.2.2.2.1.getD k zSl) (by rw[Y7y hk]; exact gm9 hk);unfold selErr;rw[if_neg (by omega),if_neg]
   have:(p.2.2.2.2.1.getD k zSl).1.any (fun c=>!inP c.2 0 ((p.1.length:Int) - 1))=false:=by
    rw[List.any_eq_false];intro c hcm;have:=q2 c hcm
    have:inP c.2 0 ((p.1.length:Int) - 1)=true:=by
     unfold inP;simp only[ba9,decide_eq_true_eq];omega
    rw[this]; simp
   rw[this]; simp
  have ht:Yjl p=(-1,0):=by
   unfold Yjl;rw[h1,if_neg (by simp),hc,if_neg (by simp),hsel]; rfl
  have hb:(List.range p.2.2.2.2.2.length).findSome? (blkErr p)=none:=by
   rw[List.findSome?_eq_none_iff];intro k hk;have hk:=List.mem_range.1 hk;obtain ⟨q1,q2⟩:=h4 (p.2.2.2.2.2.getD k []) (by rw[Y7y hk]; exact gm9 hk);unfold blkErr;rw[if_neg (by omega),List.findSome?_eq_none_iff];intro j hj;have hj:=List.mem_range.1 hj;rw[if_pos (q2 _ (by rw[Y7y hj]; exact gm9 hj))]
  unfold rightP wrongP;rw[ht,if_pos rfl,hb]; rfl
open Go.Proofs
structure AC where
 cap:Int
 closed:Bool
 sent:Int
 got:Int
 sends:List W
 recvs:List W
def AC.leave (a:AC) (g:Int):AC:={ a with sends:=a.sends.filter (notG g),recvs:=a.recvs.filter (notG g) }
def AC.send (a:AC) (w:W):AC × Ou :=
 if a.cap < 0 then (a,(0,0,nobody,0)) else if a.closed=true then (a,(3,0,nobody,0)) else
 match a.recvs.find? (notG w.1) with
 | some v=>({ a.leave v.1 with sent:=a.sent+1,got:=a.got+1 },(1,a.sent,v,a.sent))
 | none=>if a.sent - a.got=max a.cap 0 then ({ a with sends:=a.sends++[w] },(0,0,nobody,0)) else ({ a with sent:=a.sent+1 },(1,a.sent,nobody,0))
def AC.recv (a:AC) (w:W):AC × Ou :=
 match a.sends.find? (notG w.1) with
 | some v=>({ a.leave v.1 with sent:=a.sent+1,got:=a.got+1 },(1,a.got,v,a.sent))
 | none=>if a.cap < 0 then (a,(0,0,nobody,0)) else if a.sent - a.got > 0 then ({ a with got:=a.got+1 },(1,a.got,nobody,0)) else if a.closed=true then (a,(2,0,nobody,0)) else ({ a with recvs:=a.recvs++[w] },(0,0,nobody,0))
def AC.ready (a:AC) (send:Bool) (g:Int):Bool :=
 if a.cap < 0 then false else if a.closed=true then true else if send=true then decide (a.sent - a.got ≠ max a.cap 0) || (a.recvs.find? (notG g)).isSome else decide (a.sent - a.got > 0) || (a.sends.find? (notG g)).isSome
def AC.new (n:Int):AC:=⟨n,false,0,0,[],[]⟩
def AC.sides (a:AC):Prop:=if a.cap < 0 then a.closed=false/\a.sent=0/\a.sends=[]/\a.recvs=[] else
 if a.closed=true then a.sends=[]/\a.recvs=[] else (a.sends=[] \/ a.sent - a.got=a.cap)/\(a.recvs=[] \/ a.sent=a.got)
structure AC.Ok (a:AC):Prop where
 cap:-1 <= a.cap/\a.cap <= 3
 sw:wOK a.sends
 rw:wOK a.recvs
 nums:0 <= a.got/\a.got <= a.sent/\a.sent <= 1048576
 room:a.sent - a.got <= max a.cap 0
 sides:a.sides
structure RelC (c:Ch) (a:AC):Prop where
 cap:c.1=a.cap
 closed:c.2.1=a.closed
 sent:c.2.2.2.1=a.sent
 got:c.2.2.2.2.1=a.got
 sends:c.2.2.2.2.2.1=a.sends
 recvs:c.2.2.2.2.2.2=a.recvs
 rok:rOK c.2.2.1
 rcap:c.2.2.1.1=max a.cap 0
 items:rItems c.2.2.1=seqI a.got (a.sent - a.got).toNat
theorem RelC.cnt {c:Ch} {a:AC} (h:RelC c a) (hn:a.got <= a.sent):c.2.2.1.2.2.2=a.sent - a.got:=by
 have h1:=congrArg List.length h.items;rw[Y9l,Yhr] at h1;have:=h.rok.2.2.2.1;omega
theorem Ya6 {α:Type} {l:List α}:l.length=0 ↔ l=[]:=List.length_eq_zero_iff
theorem RelC.ok {c:Ch} {a:AC} (h:RelC c a):chOK c ↔ a.Ok:=by
 constructor
 ·rintro ⟨h1,h2,h3,h4,h5,h6,h7,h8,h9,h10,⟨h11,h12⟩,h13⟩;rw[h.cap] at h2 h3;rw[h.sends] at h5;rw[h.recvs] at h6;rw[h.sent] at h7 h8 h10;rw[h.got] at h9 h10;have hc:=h.cnt h10;refine ⟨⟨h2,h3⟩,h5,h6,⟨h9,h10,h8⟩,?_,?_⟩
  ·have:=h.rok.2.2.2.2.1;rw[hc,h.rcap] at this; exact this
  ·unfold Yi2 at h13;unfold AC.sides;rw[h.cap,h.closed,h.sent,h.sends,h.recvs,hc] at h13;simp only[Ya6] at h13;rw[show (a.sent=a.got)=(a.sent - a.got=0) from propext (by omega)];exact h13
 ·intro ho;have hn:=ho.nums;have hc:=h.cnt hn.2.1;have hi:=h.items;refine ⟨h.rok,by rw[h.cap]; exact ho.cap.1,by rw[h.cap]; exact ho.cap.2,by rw[h.rcap,h.cap],by rw[h.sends]; exact ho.sw,by rw[h.recvs]; exact ho.rw,by rw[h.sent]; omega,by rw[h.sent]; exact hn.2.2,by rw[h.got]; exact hn.1,by rw[h.got,h.sent]; exact hn.2.1,⟨?_,?_⟩,?_⟩
  ·rw[h.got,hi,Yhr]
  ·rw[hi,Yhr,h.sent,h.got]; omega
  ·have h13:=ho.sides;unfold Yi2;unfold AC.sides at h13;rw[h.cap,h.closed,h.sent,h.sends,h.recvs,hc];simp only[Ya6];rw[show (a.sent=a.got)=(a.sent - a.got=0) from propext (by omega)] at h13;exact h13
theorem Y6u {l:List W} {p:W->Bool}:(match l.findIdx? p with | some i=>some (l.getD i zeroW) | none=>none)=l.find? p:=by
 induction l with
 | nil=>rfl
 | cons x l ih =>
  rw[List.findIdx?_cons,List.find?_cons];cases hp:p x with
  | true=>rfl
  | false =>
   rw[<- ih];cases l.findIdx? p with
   | none=>rfl
   | some i=>rfl
theorem Y6x {l:List W} {p:W->Bool} {v:W} (h:l.find? p=some v):∃ i,l.findIdx? p=some i/\l.getD i zeroW=v:=by
 rw[<- Y6u] at h;cases hi:l.findIdx? p with
 | none=>rw[hi] at h; cases h
 | some i=>rw[hi] at h; exact ⟨i,rfl,oi9 h⟩
theorem Y6w {l:List W} {p:W->Bool} (h:l.find? p=none):l.findIdx? p=none:=by
 rw[<- Y6u] at h;cases hi:l.findIdx? p with
 | none=>rfl
 | some i=>rw[hi] at h; cases h
theorem RelC.leave {c:Ch} {a:AC} (h:RelC c a) (g:Int):RelC (leaveC c g) (a.leave g) :=
 ⟨h.cap,h.closed,h.sent,h.got,by show c.2.2.2.2.2.1.filter _=_; rw[h.sends]; rfl,by show c.2.2.2.2.2.2.filter _=_; rw[h.recvs]; rfl,h.rok,h.rcap,h.items⟩
theorem RelC.push {c:Ch} {a:AC} (h:RelC c a) (hn:a.got <= a.sent) (hf:a.sent - a.got ≠ max a.cap 0):RelC (pushC c) { a with sent:=a.sent+1 }:=by
 have hc:=h.cnt hn;have hne:c.2.2.1.2.2.2 ≠ c.2.2.1.1:=by rw[hc,h.rcap]; exact hf
 refine ⟨h.cap,h.closed,by show c.2.2.2.1+1=_; rw[h.sent],h.got,h.sends,h.recvs,Yez h.rok hne _,h.rcap,?_⟩;show rItems (pushed c.2.2.1 c.2.2.2.1)=seqI a.got (a.sent+1 - a.got).toNat;rw[Yey h.rok hne,h.items,h.sent];have:(a.sent+1 - a.got).toNat=(a.sent - a.got).toNat+1:=by omega
 rw[this,<- Yhs];congr 2;omega
theorem RelC.pop {c:Ch} {a:AC} (h:RelC c a) (hf:a.sent - a.got > 0):RelC (popC c) { a with got:=a.got+1 }/\first c.2.2.1=a.got:=by
 have hc:=h.cnt (by omega);have hne:c.2.2.1.2.2.2 ≠ 0:=by rw[hc]; omega
 have hi:=Yer h.rok hne;rw[h.items,show (a.sent - a.got).toNat=(a.sent - (a.got+1)).toNat+1 by omega,Yhp] at hi;have hi:=List.cons.inj hi;exact ⟨⟨h.cap,h.closed,h.sent,by show c.2.2.2.2.1+1=_; rw[h.got],h.sends,h.recvs,Yes h.rok hne,h.rcap,hi.2.symm⟩,hi.1.symm⟩
theorem RelC.pass {c:Ch} {a:AC} (h:RelC c a) (hf:a.sent=a.got):RelC (passC c) { a with sent:=a.sent+1,got:=a.got+1 }:=by
 refine ⟨h.cap,h.closed,by show c.2.2.2.1+1=_; rw[h.sent],by show c.2.2.2.2.1+1=_; rw[h.got],h.sends,h.recvs,h.rok,h.rcap,?_⟩;show rItems c.2.2.1=seqI (a.got+1) (a.sent+1 - (a.got+1)).toNat;rw[h.items,show (a.sent - a.got).toNat=0 by omega,show (a.sent+1 - (a.got+1)).toNat=0 by omega]; rfl
def newW (l:List W) (w:W):Prop:=keyW w ∉ l.map keyW/\l.length < 64
theorem Yew {l:List W} {w:W} (h:newW l w):pushW l w=(l++[w],0):=by
 unfold pushW;rw[if_neg h.1,if_neg (Nat.ne_of_lt h.2)]
theorem RelC.send {c:Ch} {a:AC} (h:RelC c a) (ho:a.Ok) (w:W) (hs:a.sent < 1048576) (hw:newW a.sends w):∃ c',sendC c w=(c',(a.send w).2,0)/\RelC c' (a.send w).1:=by
 have hn:=ho.nums;have hc:=h.cnt hn.2.1;have hsd:=ho.sides;unfold sendC AC.send;rw[h.cap,h.closed,h.recvs,h.sent,hc,h.rcap];by_cases c1:a.cap < 0
 ·rw[if_pos c1,if_pos c1]; exact ⟨c,rfl,h⟩
 rw[if_neg c1,if_neg c1];by_cases c2:a.closed=true
 ·rw[if_pos c2,if_pos c2]; exact ⟨c,rfl,h⟩
 rw[if_neg c2,if_neg c2];unfold AC.sides at hsd;rw[if_neg c1,if_neg c2] at hsd;cases hf:a.recvs.find? (notG w.1) with
 | some v =>
  obtain ⟨i,e1,e2⟩:=Y6x hf;rw[e1];simp only;rw[if_neg (by omega),e2];have hr:a.recvs ≠ []:=by intro q; rw[q] at hf; cases hf
  exact ⟨_,rfl,(h.leave v.1).pass (hsd.2.resolve_left hr)⟩
 | none =>
  rw[Y6w hf];simp only;by_cases c3:a.sent - a.got=max a.cap 0
  ·rw[if_pos c3,if_pos c3];unfold outS;rw[h.sends,Yew hw,if_pos rfl];exact ⟨_,rfl,h.cap,h.closed,h.sent,h.got,rfl,h.recvs,h.rok,h.rcap,h.items⟩
  ·rw[if_neg c3,if_neg c3,if_neg (by omega)];exact ⟨_,rfl,h.push hn.2.1 c3⟩
theorem RelC.recv {c:Ch} {a:AC} (h:RelC c a) (ho:a.Ok) (w:W) (hs:a.sent < 1048576) (hw:newW a.recvs w):∃ c',recvC c w=(c',(a.recv w).2,0)/\RelC c' (a.recv w).1:=by
 have hn:=ho.nums;have hc:=h.cnt hn.2.1;have hsd:=ho.sides;have hrm:=ho.room;unfold recvC AC.recv;rw[h.cap,h.closed,h.sends,h.sent,hc];cases hf:a.sends.find? (notG w.1) with
 | some v =>
  obtain ⟨i,e1,e2⟩:=Y6x hf;rw[e1];simp only;rw[if_neg (by omega),e2];have hr:a.sends ≠ []:=by intro q; rw[q] at hf; cases hf
  unfold AC.sides at hsd;have c1:¬ a.cap < 0:=fun q=>by rw[if_pos q] at hsd; exact hr hsd.2.2.1
  rw[if_neg c1] at hsd;have c2:¬ a.closed=true:=fun q=>by rw[if_pos q] at hsd; exact hr hsd.1
  rw[if_neg c2] at hsd;have hfull:=hsd.1.resolve_left hr;by_cases c3:a.sent - a.got > 0
  ·rw[if_pos c3];obtain ⟨p1,p2⟩:=(h.leave v.1).pop c3;have p3:=p1.push (by show a.got+1 <= a.sent; omega) (by show a.sent - (a.got+1) ≠ max a.cap 0; omega);refine ⟨_,?_,p3⟩;rw[show first c.2.2.1=a.got from p2]
  ·rw[if_neg c3];refine ⟨_,?_,(h.leave v.1).pass (show a.sent=a.got by omega)⟩;rw[show a.sent=a.got by omega]
 | none =>
  rw[Y6w hf];simp only;by_cases c1:a.cap < 0
  ·rw[if_pos c1,if_pos c1]; exact ⟨c,rfl,h⟩
  rw[if_neg c1,if_neg c1];by_cases c3:a.sent - a.got > 0
  ·rw[if_pos c3,if_pos c3];obtain ⟨p1,p2⟩:=h.pop c3;exact ⟨_,by rw[p2],p1⟩
  rw[if_neg c3,if_neg c3];by_cases c2:a.closed=true
  ·rw[if_pos c2,if_pos c2]; exact ⟨c,rfl,h⟩
  rw[if_neg c2,if_neg c2];unfold outR;rw[h.recvs,Yew hw,if_pos rfl];exact ⟨_,rfl,h.cap,h.closed,h.sent,h.got,h.sends,rfl,h.rok,h.rcap,h.items⟩
theorem RelC.ready {c:Ch} {a:AC} (h:RelC c a) (ho:a.Ok) (s:Bool) (g:Int):readyC c s g=a.ready s g:=by
 have hc:=h.cnt ho.nums.2.1
 have hf:∀ l:List W,(l.findIdx? (notG g)).isSome=(l.find? (notG g)).isSome:=by
  intro l;rw[<- Y6u];cases l.findIdx? (notG g) <;> rfl
 unfold readyC AC.ready;rw[h.cap,h.closed,h.recvs,h.sends,hc,h.rcap,hf,hf]
theorem RelC.new {n:Int} (h1:-1 <= n) (h2:n <= 3):RelC (newC n) (AC.new n) where
 cap:=rfl
 closed:=rfl
 sent:=rfl
 got:=rfl
 sends:=rfl
 recvs:=rfl
 rok:=Ycm n h2
 rcap:=rfl
 items:=rfl
theorem RelC.same {c d:Ch} {a:AC} (h:RelC c a) (k:RelC d a):SameC c d where
 cap:=h.cap.trans k.cap.symm
 closed:=h.closed.trans k.closed.symm
 sent:=h.sent.trans k.sent.symm
 got:=h.got.trans k.got.symm
 sends:=h.sends.trans k.sends.symm
 recvs:=h.recvs.trans k.recvs.symm
 oka:=h.rok
 okb:=k.rok
 bcap:=h.rcap.trans k.rcap.symm
 items:=h.items.trans k.items.symm
theorem Ykb {l:List W} {w:W} (h:wOK l) (hw:isW w) (hn:newW l w):wOK (l++[w]):=by
 refine ⟨fun x hx=>?_,by rw[ln9]; have:=hn.2; simp; omega,?_⟩
 ·rcases List.mem_append.1 hx with hx | hx
  ·exact h.1 x hx
  ·rw[List.mem_singleton.1 hx]; exact hw
 ·rw[List.map_append,List.nodup_append];refine ⟨h.2.2,by simp,?_⟩;intro a ha b hb;simp at hb;subst hb;intro e; exact hn.1 (e ▸ ha)
theorem AC.Ok.leave {a:AC} (h:a.Ok) (g:Int):(a.leave g).Ok:=by
 refine ⟨h.cap,Ykc h.sw _,Ykc h.rw _,h.nums,h.room,?_⟩;have hs:=h.sides;unfold AC.sides at hs ⊢;have f:∀ l:List W,l=[]->l.filter (notG g)=[]:=fun l e=>by rw[e]; rfl
 show if a.cap < 0 then a.closed=false/\a.sent=0/\a.sends.filter (notG g)=[]/\a.recvs.filter (notG g)=[] else
  if a.closed=true then a.sends.filter (notG g)=[]/\a.recvs.filter (notG g)=[] else (a.sends.filter (notG g)=[] \/ a.sent - a.got=a.cap)/\(a.recvs.filter (notG g)=[] \/ a.sent=a.got)
 split at hs
 ·rename_i c; rw[if_pos c]; exact ⟨hs.1,hs.2.1,f _ hs.2.2.1,f _ hs.2.2.2⟩
 ·rename_i c;rw[if_neg c];split at hs
  ·rename_i c2; rw[if_pos c2]; exact ⟨f _ hs.1,f _ hs.2⟩
  ·rename_i c2; rw[if_neg c2]; exact ⟨hs.1.imp (f _) id,hs.2.imp (f _) id⟩
theorem AC.Ok.send {a:AC} (h:a.Ok) {w:W} (hw:isW w) (hn:newW a.sends w) (hs:a.sent < 1048576) (hx:a.recvs.find? (notG w.1)=none->a.sent - a.got ≠ max a.cap 0->a.recvs=[]):(a.send w).1.Ok:=by
 have hnum:=h.nums;have hrm:=h.room;have hsd:=h.sides;unfold AC.send;by_cases c1:a.cap < 0
 ·rw[if_pos c1]; exact h
 rw[if_neg c1];by_cases c2:a.closed=true
 ·rw[if_pos c2]; exact h
 rw[if_neg c2];unfold AC.sides at hsd;rw[if_neg c1,if_neg c2] at hsd;cases hf:a.recvs.find? (notG w.1) with
 | some v =>
  have hl:=h.leave v.1;have hsl:=hl.sides;unfold AC.sides at hsl;have hsl:if a.cap < 0 then _ else if a.closed=true then _ else _:=hsl
  rw[if_neg c1,if_neg c2] at hsl;refine ⟨h.cap,hl.sw,hl.rw,by show 0 <= a.got+1/\a.got+1 <= a.sent+1/\a.sent+1 <= 1048576; omega,by show a.sent+1 - (a.got+1) <= max a.cap 0; omega,?_⟩;unfold AC.sides;show if a.cap < 0 then _ else if a.closed=true then _ else ((a.leave v.1).sends=[] \/ a.sent+1 - (a.got+1)=a.cap)/\((a.leave v.1).recvs=[] \/ a.sent+1=a.got+1)
  rw[if_neg c1,if_neg c2];exact ⟨hsl.1.imp id (fun e=>by have:a.sent - a.got=a.cap:=e; omega),hsl.2.imp id (fun e=>by have:a.sent=a.got:=e; omega)⟩
 | none =>
  simp only;by_cases c3:a.sent - a.got=max a.cap 0
  ·rw[if_pos c3];refine ⟨h.cap,Ykb h.sw hw hn,h.rw,h.nums,h.room,?_⟩;unfold AC.sides;show if a.cap < 0 then _ else if a.closed=true then _ else (a.sends++[w]=[] \/ a.sent - a.got=a.cap)/\(a.recvs=[] \/ a.sent=a.got)
   rw[if_neg c1,if_neg c2];exact ⟨.inr (by omega),hsd.2⟩
  ·rw[if_neg c3];refine ⟨h.cap,h.sw,h.rw,by show 0 <= a.got/\a.got <= a.sent+1/\a.sent+1 <= 1048576; omega,by show a.sent+1 - a.got <= max a.cap 0; omega,?_⟩;unfold AC.sides;show if a.cap < 0 then _ else if a.closed=true then _ else (a.sends=[] \/ a.sent+1 - a.got=a.cap)/\(a.recvs=[] \/ a.sent+1=a.got)
   rw[if_neg c1,if_neg c2];exact ⟨.inl (hsd.1.resolve_right (by omega)),.inl (hx hf c3)⟩
theorem AC.Ok.recv {a:AC} (h:a.Ok) {w:W} (hw:isW w) (hn:newW a.recvs w) (hs:a.sent < 1048576) (hx:a.sends.find? (notG w.1)=none->a.sent - a.got > 0->a.sends=[]):(a.recv w).1.Ok:=by
 have hnum:=h.nums;have hrm:=h.room;have hsd:=h.sides;unfold AC.sides at hsd;unfold AC.recv;cases hf:a.sends.find? (notG w.1) with
 | some v =>
  have hr:a.sends ≠ []:=by intro q; rw[q] at hf; cases hf
  have c1:¬ a.cap < 0:=fun q=>by rw[if_pos q] at hsd; exact hr hsd.2.2.1
  rw[if_neg c1] at hsd;have c2:¬ a.closed=true:=fun q=>by rw[if_pos q] at hsd; exact hr hsd.1
  have hl:=h.leave v.1;have hsl:=hl.sides;unfold AC.sides at hsl;have hsl:if a.cap < 0 then _ else if a.closed=true then _ else _:=hsl
  rw[if_neg c1,if_neg c2] at hsl;refine ⟨h.cap,hl.sw,hl.rw,by show 0 <= a.got+1/\a.got+1 <= a.sent+1/\a.sent+1 <= 1048576; omega,by show a.sent+1 - (a.got+1) <= max a.cap 0; omega,?_⟩;unfold AC.sides;show if a.cap < 0 then _ else if a.closed=true then _ else ((a.leave v.1).sends=[] \/ a.sent+1 - (a.got+1)=a.cap)/\((a.leave v.1).recvs=[] \/ a.sent+1=a.got+1)
  rw[if_neg c1,if_neg c2];exact ⟨hsl.1.imp id (fun e=>by have:a.sent - a.got=a.cap:=e; omega),hsl.2.imp id (fun e=>by have:a.sent=a.got:=e; omega)⟩
 | none =>
  simp only;by_cases c1:a.cap < 0
  ·rw[if_pos c1]; exact h
  rw[if_neg c1] at hsd ⊢;by_cases c3:a.sent - a.got > 0
  ·rw[if_pos c3];have hse:=hx hf c3;refine ⟨h.cap,h.sw,h.rw,by show 0 <= a.got+1/\a.got+1 <= a.sent/\a.sent <= 1048576; omega,by show a.sent - (a.got+1) <= max a.cap 0; omega,?_⟩;unfold AC.sides;show if a.cap < 0 then _ else if a.closed=true then a.sends=[]/\a.recvs=[] else (a.sends=[] \/ a.sent - (a.got+1)=a.cap)/\(a.recvs=[] \/ a.sent=a.got+1)
   rw[if_neg c1];split at hsd
   ·rename_i c2; rw[if_pos c2]; exact hsd
   ·rename_i c2; rw[if_neg c2];exact ⟨.inl hse,.inl (hsd.2.resolve_right (by omega))⟩
  rw[if_neg c3];by_cases c2:a.closed=true
  ·rw[if_pos c2]; exact h
  rw[if_neg c2] at hsd ⊢;refine ⟨h.cap,h.sw,Ykb h.rw hw hn,h.nums,h.room,?_⟩;unfold AC.sides;show if a.cap < 0 then _ else if a.closed=true then _ else (a.sends=[] \/ a.sent - a.got=a.cap)/\(a.recvs++[w]=[] \/ a.sent=a.got)
  rw[if_neg c1,if_neg c2];exact ⟨hsd.1,.inr (by omega)⟩
theorem AC.Ok.new {n:Int} (h1:-1 <= n) (h2:n <= 3):(AC.new n).Ok:=by
 refine ⟨⟨h1,h2⟩,⟨by simp[AC.new],by simp[AC.new],by simp[AC.new]⟩,⟨by simp[AC.new],by simp[AC.new],by simp[AC.new]⟩,by simp[AC.new],by simp[AC.new]; omega,?_⟩;unfold AC.sides;split
 ·exact ⟨rfl,rfl,rfl,rfl⟩
 ·rw[if_neg (by simp[AC.new])]; exact ⟨.inl rfl,.inl rfl⟩
def AC.close (a:AC):AC:={ a with closed:=true,recvs:=[] }
theorem AC.Ok.close {a:AC} (h:a.Ok) (h1:¬ a.cap < 0) (h2:a.sends=[]):a.close.Ok:=by
 refine ⟨h.cap,h.sw,⟨by simp[AC.close],by simp[AC.close],by simp[AC.close]⟩,h.nums,h.room,?_⟩;unfold AC.sides;show if a.cap < 0 then _ else if true=true then a.sends=[]/\([]:List W)=[] else _
 rw[if_neg h1,if_pos rfl]; exact ⟨h2,rfl⟩
theorem RelC.close {c:Ch} {a:AC} (h:RelC c a):(closeC c=(c,[],true)/\(a.cap < 0 \/ a.closed=true \/ a.sends ≠ [])) \/ (¬ (a.cap < 0 \/ a.closed=true \/ a.sends ≠ [])/\∃ c',closeC c=(c',a.recvs,false)/\RelC c' a.close):=by
 unfold closeC;rw[h.cap,h.closed,h.sends,h.recvs];by_cases q:a.cap < 0 \/ a.closed=true \/ a.sends ≠ []
 ·left;rw[if_pos (by rcases q with q | q | q; exact .inl q; exact .inr (.inl q); exact .inr (.inr (fun e=>q (Ya6.1 e))))];exact ⟨rfl,q⟩
 ·right;refine ⟨q,_,by rw[if_neg (fun e=>q (by rcases e with e | e | e; exact .inl e; exact .inr (.inl e); exact .inr (.inr (fun e2=>e (Ya6.2 e2)))))],?_⟩;exact ⟨rfl,rfl,h.sent,h.got,rfl,rfl,h.rok,h.rcap,h.items⟩
abbrev Gor:=Int × (Int × (Int × Bool))
def zGor:Gor:=(0,0,0,false)
def gAt (gs:List Gor) (g:Int):Gor:=gs.getD g.toNat zGor
def blk (p:Pg) (b:Int):List In:=p.2.2.2.2.2.getD b.toNat []
def inAt (p:Pg) (x:Gor):In:=(blk p x.1).getD x.2.1.toNat zIn
def gOK (p:Pg) (x:Gor):Prop:=0 <= x.1/\x.1 < p.2.2.2.2.2.length/\0 <= x.2.1/\x.2.1 <= (blk p x.1).length/\0 <= x.2.2.1/\x.2.2.1 <= 2/\(x.2.1=(blk p x.1).length ↔ x.2.2.1=2)
def gTo (p:Pg) (x:Gor) (pc:Int):Gor:=(x.1,pc,if pc=(blk p x.1).length then 2 else 0,x.2.2.2)
def gWait (x:Gor):Gor:=(x.1,x.2.1,1,x.2.2.2)
def gCl (x:Gor) (b:Bool):Gor:=(x.1,x.2.1,x.2.2.1,b)
theorem gAt_eq (gs:List Gor) (g:Int):getAt ((0:Int),((0:Int),((0:Int),false))) gs (toN g)=gAt gs g:=by rw[Y7v]; rfl
theorem blk_eq (p:Pg) (b:Int):getAt ([]:List In) p.2.2.2.2.2 (toN b)=blk p b:=by rw[Y7v]; rfl
theorem Y7u {gs:List Gor} {g:Int} (h:0 <= g/\g < gs.length) (x:Gor):gAt (gs.set (toN g) x) g=x:=by
 unfold gAt toN;have:g.toNat < gs.length:=by omega
 simp[List.getD,this]
theorem gAt_ne {gs:List Gor} {g g':Int} (h:0 <= g) (h':0 <= g') (hne:g ≠ g') (x:Gor):gAt (gs.set (toN g) x) g'=gAt gs g':=by
 unfold gAt toN;have:g.toNat ≠ g'.toNat:=by omega
 simp[List.getD,List.getElem?_set,this]
theorem Y7t {gs:List Gor} {g:Int} (h:0 <= g/\g < gs.length):gAt gs g ∈ gs:=by
 unfold gAt;have:g.toNat < gs.length:=by omega
 simp[List.getD,this]
theorem set_set' {α:Type} (l:List α) (n:Nat) (a b:α):(l.set n a).set n b=l.set n b:=by simp
section
variable (p:Pg) (ev st:Int) (gs:List Gor) (cs:List Ch) (ls:List Lk) (os:List On) (L:List Ev)
theorem tell_x (g k o n s:Int) (hL:L.length <= 1000000) (he:0 <= ev/\ev <= 4000000) :
  Z3l (g,k,o,n,s,p,(ev,st),gs,cs,ls,os,L)=some (ev,p,(ev+1,st),gs,cs,ls,os,L++[(g,k,o,n,s)]):=by
 unfold Z3l;simp only;rw[wrapI (n:=ev+1) (by omega) (by omega),wrapI (by omega) (by omega),bif_t (Y74.2 (by simp; omega)),show ev+1 - 1=ev by omega]
theorem Y98 (g:Int) (hg:0 <= g/\g < gs.length) (hb:gOK p (gAt gs g)) (hr:(gAt gs g).2.2.1 ≠ 2) :
  Z2m (g,p,(ev,st),gs,cs,ls,os,L)=some (inAt p (gAt gs g),p,(ev,st),gs,cs,ls,os,L):=by
 obtain ⟨h1,h2,h3,h4,h5,h6,h7⟩:=hb;unfold Z2m;simp only[gAt_eq,blk_eq];have h8:(gAt gs g).2.1 ≠ (blk p (gAt gs g).1).length:=fun e=>hr (h7.1 e)
 rw[bif_t (inbL.2 hg),bif_t (inbL.2 ⟨h1,h2⟩),bif_t (inbL.2 ⟨h3,by omega⟩),Y7v]; rfl
theorem goTo_x (g pc:Int) (hg:0 <= g/\g < gs.length) (h1:0 <= (gAt gs g).1) (h2:(gAt gs g).1 < p.2.2.2.2.2.length) :
  Z2k (g,pc,p,(ev,st),gs,cs,ls,os,L)=some (p,(ev,st),gs.set (toN g) (gTo p (gAt gs g) pc),cs,ls,os,L):=by
 unfold Z2k;simp only[gAt_eq,Y7u hg,set_set',blk_eq,List.length_set];rw[bif_t (inbL.2 hg)];rw[bif_t (inbL.2 ⟨h1,h2⟩)];unfold gTo;by_cases h:pc=(blk p (gAt gs g).1).length
 ·rw[bif_t (by simpa using h),if_pos h]
 ·rw[bif_f (by simpa using h),if_neg h]
theorem goOn_x (g:Int) (hg:0 <= g/\g < gs.length) (h1:0 <= (gAt gs g).1) (h2:(gAt gs g).1 < p.2.2.2.2.2.length) (h3:0 <= (gAt gs g).2.1/\(gAt gs g).2.1 <= 1000) :
  Z2i (g,p,(ev,st),gs,cs,ls,os,L)=some (p,(ev,st),gs.set (toN g) (gTo p (gAt gs g) ((gAt gs g).2.1+1)),cs,ls,os,L):=by
 unfold Z2i;simp only[gAt_eq];rw[bif_t (inbL.2 hg),wrapI (by omega) (by omega),goTo_x p ev st gs cs ls os L g _ hg h1 h2];rfl
theorem wait_x (g:Int) (hg:0 <= g/\g < gs.length) :
  Z3p (g,p,(ev,st),gs,cs,ls,os,L)=some (p,(ev,st),gs.set (toN g) (gWait (gAt gs g)),cs,ls,os,L):=by
 unfold Z3p;simp only[gAt_eq];rw[bif_t (inbL.2 hg)];rfl
end
def zA:AC:=AC.new (-1)
def RelCs (cs:List Ch) (ac:List AC):Prop:=cs.length=ac.length/\∀ k,k < ac.length->RelC (cs.getD k zeroC) (ac.getD k zA)
theorem RelCs.set {cs:List Ch} {ac:List AC} (h:RelCs cs ac) {k:Nat} {c:Ch} {a:AC} (hr:RelC c a):RelCs (cs.set k c) (ac.set k a):=by
 refine ⟨by simp[h.1],fun j hj=>?_⟩;have hj:j < ac.length:=by simpa using hj
 have hj':j < cs.length:=by rw[h.1]; exact hj
 by_cases e:k=j
 ·subst e;simp only[List.getD,List.getElem?_set,hj,hj',if_true,Option.getD_some]; exact hr
 ·simp only[List.getD,List.getElem?_set,e,if_false];exact h.2 j hj
theorem RelCs.map {cs:List Ch} {ac:List AC} (h:RelCs cs ac) {f:Ch->Ch} {f':AC->AC} (hf:∀ c a,RelC c a->RelC (f c) (f' a)):RelCs (cs.map f) (ac.map f'):=by
 refine ⟨by simp[h.1],fun j hj=>?_⟩;have hj:j < ac.length:=by simpa using hj
 have hj':j < cs.length:=by rw[h.1]; exact hj
 have:=h.2 j hj;simp only[List.getD,List.getElem?_map,List.getElem?_eq_getElem hj,List.getElem?_eq_getElem hj',Option.map_some,Option.getD_some] at this ⊢;exact hf _ _ this
theorem chz_eq (cs:List Ch) (k:Int):getAt ((0:Int),(false,(((0:Int),((0:Int),(([]:List Int),(0:Int)))),((0:Int),((0:Int),(([]:List W),([]:List W))))))) cs (toN k)=cs.getD k.toNat zeroC:=by rw[Y7v]; rfl
structure MS where
 p:Pg
 ev:Int
 st:Int
 gs:List Gor
 cs:List AC
 ls:List Lk
 os:List On
 L:List Ev
abbrev TS:=Pg × (Int × Int) × List Gor × List Ch × List Lk × List On × List Ev
abbrev MS.t (s:MS) (cs:List Ch):TS:=(s.p,(s.ev,s.st),s.gs,cs,s.ls,s.os,s.L)
abbrev MS.tell (s:MS) (e:Ev):MS:={ s with ev:=s.ev+1,L:=s.L++[e] }
def MS.g (s:MS) (g:Int):Gor:=gAt s.gs g
abbrev MS.gset (s:MS) (g:Int) (x:Gor):MS:={ s with gs:=s.gs.set (toN g) x }
def MS.to (s:MS) (g pc:Int):MS:=s.gset g (gTo s.p (s.g g) pc)
def MS.on (s:MS) (g:Int):MS:=s.to g ((s.g g).2.1+1)
def MS.wait (s:MS) (g:Int):MS:=s.gset g (gWait (s.g g))
def MS.instr (s:MS) (g:Int):In:=inAt s.p (s.g g)
def MS.leave (s:MS) (g:Int):MS:={ s with cs:=s.cs.map fun a=>a.leave g }
def selAt (p:Pg) (a:Int):Sl:=p.2.2.2.2.1.getD a.toNat zSl
def caseAt (p:Pg) (a k:Int):Cs:=(selAt p a).1.getD k.toNat (false,0)
def sendsI (p:Pg) (i:In) (k:Int):Bool:=decide (i.1=1) || (decide (i.1=4) && (caseAt p i.2.1 k).1)
def MS.sends (s:MS) (x:W):Bool:=sendsI s.p (s.instr x.1) x.2.1
def MS.done1 (s:MS) (x:W) (k no:Int) (closed:Bool):MS :=
 if s.sends x=true then s.tell (x.1,3,k,no,x.2.2)
 else if closed=true then (s.tell (x.1,6,k,0,x.2.2)).gset x.1 (gCl (s.g x.1) true)
 else (s.tell (x.1,5,k,no,x.2.2)).gset x.1 (gCl (s.g x.1) false)
def MS.done (s:MS) (x:W) (k no:Int) (closed:Bool):MS:=((s.done1 x k no closed).on x.1).leave x.1
theorem Ya1 (p:Pg) (ev st:Int) (x:W) (gs:List Gor) (ls:List Lk) (os:List On) (L:List Ev) (cs:List Ch) (hc:∀ c ∈ cs,chOK c) (hx:0 <= x.1) (hl:cs.length <= 1000) :
  loop Z9z ((cs.length:Int),0,p,(ev,st),x,cs,gs,ls,os,L)=some (p,(ev,st),gs,cs.map (fun c=>leaveC c x.1),ls,os,L):=by
 have key:=Yap (f:=Z9z) cs.length (fun k=>((cs.length:Int),(k:Int),p,(ev,st),x,(cs.take k).map (fun c=>leaveC c x.1)++cs.drop k,gs,ls,os,L))
  (p,(ev,st),gs,cs.map (fun c=>leaveC c x.1),ls,os,L) (by
   intro k hk;have hlen:((cs.take k).map (fun c=>leaveC c x.1)++cs.drop k).length=cs.length:=by simp; omega
   have hget:((cs.take k).map (fun c=>leaveC c x.1)++cs.drop k).getD k zeroC=cs[k]:=by
    simp only[List.getD];rw[List.getElem?_append_right (by simp; omega)];simp[Nat.min_eq_left (Nat.le_of_lt hk),hk]
   unfold Z9z;simp only[chz_eq];rw[bif_t (dT9 (by omega)),hlen,bif_t (Y8t hk)];have hok:=hc _ (gm9 hk);rw[show ((k:Int)).toNat=k from rfl,hget,Y3u _ _ (by have:=len1 hok; omega) (by have:=len2 hok; omega),if_pos hok,if_neg (by omega),wrapI (by omega) (by omega)];simp only[bS9]
   have hset:((cs.take k).map (fun c=>leaveC c x.1)++cs.drop k).set k (leaveC cs[k] x.1)=(cs.take (k+1)).map (fun c=>leaveC c x.1)++cs.drop (k+1):=by
    rw[List.set_append_right _ _ (by simp; omega),List.drop_eq_getElem_cons hk,<- List.take_append_getElem hk];have e:k - ((cs.take k).map (fun c=>leaveC c x.1)).length=0:=by simp; omega
    rw[e,List.set_cons_zero,List.map_append,la9]; rfl
   rw[Yk0,hset,bif_t (Y8t hk)]; rfl) (by
   unfold Z9z;simp only;rw[bif_f (dF9 (by omega)),List.take_length,List.drop_length,an9]) 0 (Nat.zero_le _)
 exact key
def InOK (p:Pg) (b:List In) (i:In):Prop:=(0 <= i.1/\i.1 <= 13)/\(0 <= i.2.1/\i.2.1 < mostP p b i.1)/\0 <= i.2.2/\i.2.2 <= (if i.1=7 then (b.length:Int) else 0)
theorem Y8r {n a b:Int}:inP n a b=true ↔ a <= n/\n <= b:=by unfold inP; simp
theorem Y96 {p:Pg} {b:List In} {i:In} (h:instrP p b i=0):InOK p b i:=by
 unfold instrP at h;by_cases h1:inP i.1 0 13=false
 ·rw[if_pos h1] at h; cases h
 rw[if_neg h1] at h;by_cases h2:inP i.2.1 0 (mostP p b i.1 - 1)=false \/ inP i.2.2 0 (if i.1=7 then (b.length:Int) else 0)=false
 ·rw[if_pos h2] at h; cases h
 ·rw[not_or] at h2;have h1:inP i.1 0 13=true:=by simpa using h1
  have h3:inP i.2.1 0 (mostP p b i.1 - 1)=true:=by simpa using h2.1
  have h4:inP i.2.2 0 (if i.1=7 then (b.length:Int) else 0)=true:=by simpa using h2.2
  rw[Y8r] at h1 h3 h4;exact ⟨h1,⟨h3.1,by omega⟩,h4⟩
theorem Y2o {p:Pg} {x:Gor} (hx:gOK p x):blk p x.1 ∈ p.2.2.2.2.2:=by
 unfold blk;have:x.1.toNat < p.2.2.2.2.2.length:=by have:=hx.1; have:=hx.2.1; omega
 simp[List.getD,this]
theorem Y8o {p:Pg} {x:Gor} (hx:gOK p x) (hr:x.2.2.1 ≠ 2):inAt p x ∈ blk p x.1:=by
 unfold inAt;have h7:x.2.1 ≠ (blk p x.1).length:=fun e=>hr (hx.2.2.2.2.2.2.1 e)
 have:x.2.1.toNat < (blk p x.1).length:=by have:=hx.2.2.1; have:=hx.2.2.2.1; omega
 simp[List.getD,this]
theorem Y8p {p:Pg} (hp:RightP p) {x:Gor} (hx:gOK p x) (hr:x.2.2.1 ≠ 2):InOK p (blk p x.1) (inAt p x) :=
 Y96 ((hp.blks _ (Y2o hx)).2 _ (Y8o hx hr))
theorem Y2n {p:Pg} (hp:RightP p) {x:Gor} (hx:gOK p x):(blk p x.1).length <= 24:=(hp.blks _ (Y2o hx)).1
def fitI (p:Pg) (i:In) (c:Int) (send:Bool) (k:Int):Prop :=
 (i.1=4/\0 <= c/\c < (selAt p i.2.1).1.length/\caseAt p i.2.1 c=(send,k)) \/ (i.1=(if send=true then 1 else 2)/\c=0/\i.2.1=k)
def MS.who (s:MS) (cur:Int) (x:W):Prop:=0 <= x.1/\x.1 < s.gs.length/\((s.g x.1).2.2.1=1 \/ (x.1=cur/\(s.g x.1).2.2.1=0))
def MS.fitW (s:MS) (cur:Int) (x:W) (k:Int) (send:Bool):Prop:=s.who cur x/\fitI s.p (s.instr x.1) x.2.1 send k
def MS.fitL (s:MS) (cur:Int) (x:W) (op k:Int):Prop:=s.who cur x/\x.2.1=0/\(s.instr x.1).1=op/\(s.instr x.1).2.1=k
def MS.ch (s:MS) (k:Int):AC:=s.cs.getD k.toNat zA
def MS.lk (s:MS) (k:Int):Lk:=s.ls.getD k.toNat (false,[])
def MS.oc (s:MS) (k:Int):On:=s.os.getD k.toNat zeroO
structure GI (s:MS) (cur:Int):Prop where
 rp:RightP s.p
 gl:1 <= s.gs.length/\s.gs.length <= 8
 gor:∀ x ∈ s.gs,gOK s.p x
 cl:s.cs.length=s.p.1.length
 ch:∀ a ∈ s.cs,a.Ok
 cc:∀ k:Nat,k < s.cs.length->(s.ch k).cap=s.p.1.getD k 0
 cw:∀ k:Nat,k < s.cs.length->(∀ x ∈ (s.ch k).sends,s.fitW cur x k true)/\∀ x ∈ (s.ch k).recvs,s.fitW cur x k false
 ll:(s.ls.length:Int)=s.p.2.1
 lok:∀ l ∈ s.ls,lOK l
 lw:∀ k:Nat,k < s.ls.length->∀ x ∈ (s.lk k).2,s.fitL cur x 5 k
 ol:(s.os.length:Int)=s.p.2.2.1
 ook:∀ o ∈ s.os,oOK o
 ow:∀ k:Nat,k < s.os.length->∀ x ∈ (s.oc k).2.2,s.fitL cur x 7 k
def MS.Bd (s:MS) (n:Nat):Prop:=s.L.length+n <= 900000/\0 <= s.ev/\s.ev+n <= 3000000
theorem MS.Bd.le {s:MS} {n m:Nat} (h:s.Bd n) (hm:m <= n):s.Bd m:=⟨by have:=h.1; omega,h.2.1,by have:=h.2.2; omega⟩
theorem MS.Bd.tell {s:MS} {n:Nat} (h:s.Bd (n+1)) (e:Ev):(s.tell e).Bd n:=⟨by have:=h.1; simp only[MS.tell,ln9,List.length_singleton]; omega,by have:=h.2.1; simp only[MS.tell]; omega,by have:=h.2.2; simp only[MS.tell]; omega⟩
theorem RelCs.ok {cs:List Ch} {ac:List AC} (h:RelCs cs ac) (ho:∀ a ∈ ac,a.Ok):∀ c ∈ cs,chOK c:=by
 intro c hc;obtain ⟨k,hk,e⟩:=List.mem_iff_getElem.1 hc;have hk':k < ac.length:=by rw[<- h.1]; exact hk
 have:=h.2 k hk';simp only[List.getD,List.getElem?_eq_getElem hk,List.getElem?_eq_getElem hk',Option.getD_some] at this;rw[<- e];exact this.ok.2 (ho _ (gm9 hk'))
theorem Y3a {p:Pg} (hp:RightP p):p.1.length <= 4:=by
 have:=hp.sizes;unfold Yi4 at this;simp only[ba9,decide_eq_true_eq] at this;exact this.1
structure DoneOK (s:MS) (x:W):Prop where
 g:0 <= x.1/\x.1 < s.gs.length
 ok:gOK s.p (s.g x.1)
 pc:(s.g x.1).2.1 <= 1000
 st:(s.g x.1).2.2.1 ≠ 2
 sel:(s.instr x.1).1=4->(0 <= (s.instr x.1).2.1/\(s.instr x.1).2.1 < s.p.2.2.2.2.1.length)/\0 <= x.2.1/\x.2.1 < (selAt s.p (s.instr x.1).2.1).1.length
 cl:s.cs.length <= 1000
 ch:∀ a ∈ s.cs,a.Ok
theorem GI.done_ok {s:MS} {cur:Int} (h:GI s cur) {x:W} {k:Int} {send:Bool} (hf:s.fitW cur x k send):DoneOK s x:=by
 obtain ⟨⟨h1,h2,h3⟩,h4⟩:=hf;have hg:=h.gor _ (Y7t ⟨h1,h2⟩);have hr:(s.g x.1).2.2.1 ≠ 2:=by rcases h3 with h3 | h3 <;> omega
 have hi:=Y8p h.rp hg hr;refine ⟨⟨h1,h2⟩,hg,?_,hr,?_,?_,h.ch⟩
 ·have:=Y2n h.rp hg;have:=hg.2.2.2.1;show (gAt s.gs x.1).2.1 <= 1000;omega
 ·intro e;have h5:=hi.2.1;have e':(inAt s.p (gAt s.gs x.1)).1=4:=e;rw[e'] at h5;have h6:mostP s.p (blk s.p (gAt s.gs x.1).1) 4=s.p.2.2.2.2.1.length:=rfl;rw[h6] at h5;refine ⟨h5,?_⟩;rcases h4 with ⟨_,a,b,_⟩ | ⟨a,_⟩
  ·exact ⟨a,b⟩
  ·rw[e] at a; split at a <;> cases a
 ·rw[h.cl]; have:=Y3a h.rp; omega
theorem sel_eq (p:Pg) (a:Int):getAt (([]:List (Bool × Int)),false) p.2.2.2.2.1 (toN a)=selAt p a:=by rw[Y7v]; rfl
theorem Y3d (p:Pg) (a k:Int):getAt (false,(0:Int)) (selAt p a).1 (toN k)=caseAt p a k:=by rw[Y7v]; rfl
theorem done_x (s:MS) (cs:List Ch) (hr:RelCs cs s.cs) (x:W) (k no kind:Int) (h:DoneOK s x) (hb:s.Bd 1) :
  Z2e (x,k,no,kind,s.t cs)=some ((s.done x k no (decide (kind=2))).t (cs.map fun c=>leaveC c x.1)):=by
 obtain ⟨p,ev,st,gs,ac,ls,os,L⟩:=s;obtain ⟨hg,hok,hpc,hst,hsel,hcl,hch⟩:=h;obtain ⟨b1,b2,b3⟩:=hb;simp only[MS.g,MS.instr] at hg hok hpc hst hsel hcl hch b1 b2 b3;have hcs:∀ c ∈ cs,chOK c:=hr.ok hch;have hcl':cs.length <= 1000:=by rw[hr.1]; exact hcl
 have tel:=fun (k o n t:Int)=>tell_x p ev st gs cs ls os L x.1 k o n t (by omega) ⟨b2,by omega⟩
 -- behind the telling
 have on0:=goOn_x p (ev+1) st gs cs ls os
 have fin:∀ (gs':List Gor) (L':List Ev),gs'.length=gs.length->(gAt gs' x.1).1=(gAt gs x.1).1->(gAt gs' x.1).2.1=(gAt gs x.1).2.1 ->
   ((Z2i (x.1,p,(ev+1,st),gs',cs,ls,os,L')).bind fun r =>
    (loop Z9z ((r.2.2.2.1.length:Int),0,r.1,r.2.1,x,r.2.2.2.1,r.2.2.1,r.2.2.2.2.1,r.2.2.2.2.2.1,r.2.2.2.2.2.2)).bind fun r=>some (r.1,r.2.1,r.2.2.1,r.2.2.2.1,r.2.2.2.2.1,r.2.2.2.2.2.1,r.2.2.2.2.2.2)) =
   some (p,(ev+1,st),gs'.set (toN x.1) (gTo p (gAt gs' x.1) ((gAt gs' x.1).2.1+1)),cs.map (fun c=>leaveC c x.1),ls,os,L'):=by
  intro gs' L' e1 e2 e3;rw[goOn_x p (ev+1) st gs' cs ls os L' x.1 (by rw[e1]; exact hg) (by rw[e2]; exact hok.1) (by rw[e2]; exact hok.2.1) (by rw[e3]; exact ⟨hok.2.2.1,hpc⟩)];simp only[bS9];rw[Ya1 p (ev+1) st x _ ls os L' cs hcs hg.1 hcl'];rfl
 have cl:∀ b:Bool,(gAt (gs.set (toN x.1) (gCl (gAt gs x.1) b)) x.1)=gCl (gAt gs x.1) b:=fun b=>Y7u hg _
 unfold Z2e;simp only;rw[Y98 p ev st gs cs ls os L x.1 hg hok hst];simp only[bS9,sel_eq,Y3d,gAt_eq];generalize hi:inAt p (gAt gs x.1)=i at *
 have recvCase:sendsI p i x.2.1=false->(bif kind == 2 then
    (Z3l (x.1,6,k,0,x.2.2,p,(ev,st),gs,cs,ls,os,L)).bind fun r19 =>
     bif inb x.1 r19.2.2.2.1.length then
      (Z2i (x.1,r19.2.1,r19.2.2.1,r19.2.2.2.1.set (toN x.1) ((gAt r19.2.2.2.1 x.1).1,(gAt r19.2.2.2.1 x.1).2.1,(gAt r19.2.2.2.1 x.1).2.2.1,true),r19.2.2.2.2.1,r19.2.2.2.2.2.1,r19.2.2.2.2.2.2.1,r19.2.2.2.2.2.2.2)).bind fun r20 =>
       (loop Z9z ((r20.2.2.2.1.length:Int),0,r20.1,r20.2.1,x,r20.2.2.2.1,r20.2.2.1,r20.2.2.2.2.1,r20.2.2.2.2.2.1,r20.2.2.2.2.2.2)).bind fun r=>some (r.1,r.2.1,r.2.2.1,r.2.2.2.1,r.2.2.2.2.1,r.2.2.2.2.2.1,r.2.2.2.2.2.2)
     else none
   else
    (Z3l (x.1,5,k,no,x.2.2,p,(ev,st),gs,cs,ls,os,L)).bind fun r19 =>
     bif inb x.1 r19.2.2.2.1.length then
      (Z2i (x.1,r19.2.1,r19.2.2.1,r19.2.2.2.1.set (toN x.1) ((gAt r19.2.2.2.1 x.1).1,(gAt r19.2.2.2.1 x.1).2.1,(gAt r19.2.2.2.1 x.1).2.2.1,false),r19.2.2.2.2.1,r19.2.2.2.2.2.1,r19.2.2.2.2.2.2.1,r19.2.2.2.2.2.2.2)).bind fun r20 =>
       (loop Z9z ((r20.2.2.2.1.length:Int),0,r20.1,r20.2.1,x,r20.2.2.2.1,r20.2.2.1,r20.2.2.2.2.1,r20.2.2.2.2.2.1,r20.2.2.2.2.2.2)).bind fun r=>some (r.1,r.2.1,r.2.2.1,r.2.2.2.1,r.2.2.2.2.1,r.2.2.2.2.2.1,r.2.2.2.2.2.2)
     else none)=some (((⟨p,ev,st,gs,ac,ls,os,L⟩:MS).done x k no (decide (kind=2))).t (cs.map fun c=>leaveC c x.1)):=by
  intro hsd
  have hs:¬ (⟨p,ev,st,gs,ac,ls,os,L⟩:MS).sends x=true:=by
   show ¬ sendsI p (inAt p (gAt gs x.1)) x.2.1=true;rw[hi,hsd]; simp
  by_cases c2:kind=2
  ·rw[bif_t (by simpa using c2),tel];simp only[bS9];rw[bif_t (inbL.2 hg)];have:=fin (gs.set (toN x.1) (gCl (gAt gs x.1) true)) (L++[(x.1,6,k,0,x.2.2)]) (by simp) (by rw[cl]; rfl) (by rw[cl]; rfl);refine Eq.trans this ?_;unfold MS.done MS.done1;rw[if_neg hs,if_pos (by simpa using c2)];rfl
  ·rw[bif_f (by simpa using c2),tel];simp only[bS9];rw[bif_t (inbL.2 hg)];have:=fin (gs.set (toN x.1) (gCl (gAt gs x.1) false)) (L++[(x.1,5,k,no,x.2.2)]) (by simp) (by rw[cl]; rfl) (by rw[cl]; rfl);refine Eq.trans this ?_;unfold MS.done MS.done1;rw[if_neg hs,if_neg (by simpa using c2)];rfl
 have sendCase:sendsI p i x.2.1=true->((Z3l (x.1,3,k,no,x.2.2,p,(ev,st),gs,cs,ls,os,L)).bind fun r19 =>
   (Z2i (x.1,r19.2.1,r19.2.2.1,r19.2.2.2.1,r19.2.2.2.2.1,r19.2.2.2.2.2.1,r19.2.2.2.2.2.2.1,r19.2.2.2.2.2.2.2)).bind fun r20 =>
    (loop Z9z ((r20.2.2.2.1.length:Int),0,r20.1,r20.2.1,x,r20.2.2.2.1,r20.2.2.1,r20.2.2.2.2.1,r20.2.2.2.2.2.1,r20.2.2.2.2.2.2)).bind fun r=>some (r.1,r.2.1,r.2.2.1,r.2.2.2.1,r.2.2.2.2.1,r.2.2.2.2.2.1,r.2.2.2.2.2.2))=some (((⟨p,ev,st,gs,ac,ls,os,L⟩:MS).done x k no (decide (kind=2))).t (cs.map fun c=>leaveC c x.1)):=by
  intro hsd
  have hs:(⟨p,ev,st,gs,ac,ls,os,L⟩:MS).sends x=true:=by
   show sendsI p (inAt p (gAt gs x.1)) x.2.1=true;rw[hi,hsd]
  rw[tel];simp only[bS9];refine Eq.trans (fin gs (L++[(x.1,3,k,no,x.2.2)]) rfl rfl rfl) ?_;unfold MS.done MS.done1;rw[if_pos hs];rfl
 by_cases c1:i.1=1
 ·rw[bif_t (by simpa using c1)];exact sendCase (by unfold sendsI; simp[c1])
 rw[bif_f (by simpa using c1)];by_cases c4:i.1=4
 ·obtain ⟨q1,q2,q3⟩:=hsel c4;rw[bif_t (by simpa using c4),bif_t (inbL.2 q1),bif_t (inbL.2 ⟨q2,q3⟩)];by_cases c5:(caseAt p i.2.1 x.2.1).1=true
  ·rw[bif_t c5];exact sendCase (by unfold sendsI; simp[c4,c5])
  ·have c5:(caseAt p i.2.1 x.2.1).1=false:=by simpa using c5
   rw[bif_f c5];exact recvCase (by unfold sendsI; simp[c1,c5])
 ·rw[bif_f (by simpa using c4)];exact recvCase (by unfold sendsI; simp[c1,c4])
def AC.off (a:AC) (send:Bool) (x:W):AC × Ou:=if send=true then a.send x else a.recv x
def AC.mine (a:AC) (send:Bool):List W:=if send=true then a.sends else a.recvs
def AC.theirs (a:AC) (send:Bool):List W:=if send=true then a.recvs else a.sends
abbrev MS.csset (s:MS) (k:Int) (a:AC):MS:={ s with cs:=s.cs.set (toN k) a }
def MS.offer (s:MS) (x:W) (k:Int) (send:Bool):Ou × MS:=(((s.ch k).off send x).2,s.csset k ((s.ch k).off send x).1)
def MS.pass (s:MS) (x:W) (k:Int) (send:Bool):MS :=
 if (s.offer x k send).1.1=0 then (s.offer x k send).2.wait x.1
 else if (s.offer x k send).1.1=3 then { (s.offer x k send).2 with st:=3 }
 else (if (s.offer x k send).1.2.2.1.1=-1 then (s.offer x k send).2 else (s.offer x k send).2.done (s.offer x k send).1.2.2.1 k (s.offer x k send).1.2.2.2 false).done x k (s.offer x k send).1.2.1 (decide ((s.offer x k send).1.1=2))
structure OfferOK (s:MS) (x:W) (k:Int) (send:Bool):Prop where
 kr:0 <= k/\k < s.cs.length
 ok:(s.ch k).Ok
 w:isW x
 nw:newW ((s.ch k).mine send) x
 sent:(s.ch k).sent < 1048576
theorem Ydf (s:MS) (cs:List Ch) (hr:RelCs cs s.cs) (x:W) (k:Int) (send:Bool) (h:OfferOK s x k send) :
  ∃ cs',RelCs cs' (s.offer x k send).2.cs/\Z2w (x,k,send,s.t cs)=some ((s.offer x k send).1,(s.offer x k send).2.t cs'):=by
 obtain ⟨p,ev,st,gs,ac,ls,os,L⟩:=s;obtain ⟨hk,hok,hw,hnw,hs⟩:=h;simp only[MS.ch] at hk hok hnw hs hr;have hk2:0 <= k/\k < cs.length:=by rw[hr.1]; exact hk
 have hkn:k.toNat < ac.length:=by omega
 have hrel:=hr.2 k.toNat hkn;have hch:=hrel.ok.2 hok;unfold Z2w;simp only[chz_eq];cases send with
 | true =>
  obtain ⟨c',e1,e2⟩:=hrel.send hok x hs hnw;rw[bif_t (by rfl),bif_t (inbL.2 hk2),Yhl _ _ (by have:=len1 hch; omega) (by have:=len2 hch; omega),if_pos ⟨hch,hw⟩,e1];simp only[bS9];rw[bif_t (inbL.2 hk2)];exact ⟨cs.set (toN k) c',hr.set e2,rfl⟩
 | false =>
  obtain ⟨c',e1,e2⟩:=hrel.recv hok x hs hnw;rw[bif_f (by rfl),bif_t (inbL.2 hk2),Yfl _ _ (by have:=len1 hch; omega) (by have:=len2 hch; omega),if_pos ⟨hch,hw⟩,e1];simp only[bS9];rw[bif_t (inbL.2 hk2)];exact ⟨cs.set (toN k) c',hr.set e2,rfl⟩
theorem Ya4 {cs:List Ch} {ac:List AC} (h:RelCs cs ac) (g:Int):RelCs (cs.map fun c=>leaveC c g) (ac.map fun a=>a.leave g):=h.map fun c a r=>r.leave g
theorem Y5e (s:MS) (x:W) (k no:Int) (b:Bool):(s.done x k no b).cs=s.cs.map fun a=>a.leave x.1:=by
 unfold MS.done MS.done1;split
 ·rfl
 ·split <;> rfl
theorem Y5d {s:MS} {n:Nat} (h:s.Bd (n+1)) (x:W) (k no:Int) (b:Bool):(s.done x k no b).Bd n:=by
 unfold MS.done MS.done1;split
 ·exact h.tell (x.1,3,k,no,x.2.2)
 ·split
  ·exact h.tell (x.1,6,k,0,x.2.2)
  ·exact h.tell (x.1,5,k,no,x.2.2)
theorem done_p (s:MS) (x:W) (k no:Int) (b:Bool):(s.done x k no b).p=s.p:=by
 unfold MS.done MS.done1;split
 ·rfl
 ·split <;> rfl
theorem pass_x (s:MS) (cs:List Ch) (hr:RelCs cs s.cs) (x:W) (k:Int) (send:Bool) (h:OfferOK s x k send) (hg:0 <= x.1/\x.1 < s.gs.length) (hb:s.Bd 2)
  (h1:(s.offer x k send).1.1 ≠ 0->(s.offer x k send).1.1 ≠ 3->(s.offer x k send).1.2.2.1.1 ≠ -1->DoneOK (s.offer x k send).2 (s.offer x k send).1.2.2.1)
  (h2:(s.offer x k send).1.1 ≠ 0->(s.offer x k send).1.1 ≠ 3->DoneOK (if (s.offer x k send).1.2.2.1.1=-1 then (s.offer x k send).2 else (s.offer x k send).2.done (s.offer x k send).1.2.2.1 k (s.offer x k send).1.2.2.2 false) x) :
  ∃ cs',RelCs cs' (s.pass x k send).cs/\Z30 (x,k,send,s.t cs)=some ((s.pass x k send).t cs'):=by
 obtain ⟨cs1,r1,e1⟩:=Ydf s cs hr x k send h;have hb1:(s.offer x k send).2.Bd 2:=hb;have hg1:0 <= x.1/\x.1 < (s.offer x k send).2.gs.length:=hg;unfold Z30 MS.pass;simp only;rw[show (x,k,send,s.p,(s.ev,s.st),s.gs,cs,s.ls,s.os,s.L)=(x,k,send,s.t cs) from rfl,e1];generalize (s.offer x k send)=r at *;obtain ⟨o,s1⟩:=r;simp only[bS9,neg1] at *;by_cases c0:o.1=0
 ·rw[bif_t (by simpa using c0),if_pos c0,wait_x _ _ _ _ _ _ _ _ _ hg1];exact ⟨cs1,r1,rfl⟩
 rw[bif_f (by simpa using c0),if_neg c0];by_cases c3:o.1=3
 ·rw[bif_t (by simpa using c3),if_pos c3];exact ⟨cs1,r1,rfl⟩
 rw[bif_f (by simpa using c3),if_neg c3];have h1:=h1 c0 c3;have h2:=h2 c0 c3;by_cases cw:o.2.2.1.1=-1
 ·rw[bif_f (by simpa using cw),if_pos cw] ;rw[if_pos cw] at h2;rw[done_x s1 cs1 r1 x k _ _ h2 (hb1.le (by omega))];refine ⟨_,?_,rfl⟩;rw[Y5e]; exact Ya4 r1 _
 ·rw[bif_t (by simpa using cw),if_neg cw,done_x s1 cs1 r1 _ k _ 1 (h1 cw) (hb1.le (by omega))];rw[if_neg cw] at h2;simp only[bS9];have r2:RelCs (cs1.map fun c=>leaveC c o.2.2.1.1) (s1.done o.2.2.1 k o.2.2.2 false).cs:=by rw[Y5e]; exact Ya4 r1 _
  have hd:decide ((1:Int)=2)=false:=rfl;rw[hd,done_x (s1.done o.2.2.1 k o.2.2.2 false) _ r2 x k _ _ h2 (Y5d hb1 _ _ _ _)];refine ⟨_,?_,rfl⟩;rw[Y5e]; exact Ya4 r2 _
theorem Yhk (a:AC) (w:W):(a.send w).1.cap=a.cap:=by
 unfold AC.send;split
 ·rfl
 ·split
  ·rfl
  ·split
   ·rfl
   ·split <;> rfl
theorem Yfk (a:AC) (w:W):(a.recv w).1.cap=a.cap:=by
 unfold AC.recv;split
 ·rfl
 ·split
  ·rfl
  ·split
   ·rfl
   ·split <;> rfl
theorem Ydb (a:AC) (b:Bool) (w:W):(a.off b w).1.cap=a.cap:=by
 unfold AC.off; split
 ·exact Yhk a w
 ·exact Yfk a w
structure OffOut (a:AC) (b:Bool) (w:W) (r:AC × Ou):Prop where
 mine:∀ y ∈ r.1.mine b,y ∈ a.mine b \/ (y=w/\r.2.1=0)
 theirs:∀ y ∈ r.1.theirs b,y ∈ a.theirs b
 kind:(r.2.1=0/\r.2.2.2.1=nobody) \/ (r.2.1=1/\(r.2.2.2.1=nobody \/ (r.2.2.2.1 ∈ a.theirs b/\r.2.2.2.1.1 ≠ w.1))) \/ (r.2.1=2/\b=false/\r.2.2.2.1=nobody/\a.closed=true) \/ (r.2.1=3/\b=true/\r.2.2.2.1=nobody)
 sent:a.sent <= r.1.sent/\r.1.sent <= a.sent+1
theorem Yhm (a:AC) (w:W):OffOut a true w (a.send w):=by
 unfold AC.send;split
 ·exact ⟨fun y h=>.inl h,fun y h=>h,.inl ⟨rfl,rfl⟩,by simp only; omega⟩
 split
 ·exact ⟨fun y h=>.inl h,fun y h=>h,.inr (.inr (.inr ⟨rfl,rfl,rfl⟩)),by simp only; omega⟩
 split
 ·rename_i v hv;have h1:=List.mem_of_find?_eq_some hv;have h2:=List.find?_some hv;exact ⟨fun y h=>.inl (List.mem_filter.1 h).1,fun y h=>(List.mem_filter.1 h).1,.inr (.inl ⟨rfl,.inr ⟨h1,by simpa[notG] using h2⟩⟩),by simp only; omega⟩
 ·split
  ·refine ⟨fun y h=>?_,fun y h=>h,.inl ⟨rfl,rfl⟩,by simp only; omega⟩;rcases List.mem_append.1 (show y ∈ a.sends++[w] from h) with h | h
   ·exact .inl h
   ·exact .inr ⟨List.mem_singleton.1 h,rfl⟩
  ·exact ⟨fun y h=>.inl h,fun y h=>h,.inr (.inl ⟨rfl,.inl rfl⟩),by simp only; omega⟩
theorem Yfm (a:AC) (w:W):OffOut a false w (a.recv w):=by
 unfold AC.recv;split
 ·rename_i v hv;have h1:=List.mem_of_find?_eq_some hv;have h2:=List.find?_some hv;exact ⟨fun y h=>.inl (List.mem_filter.1 h).1,fun y h=>(List.mem_filter.1 h).1,.inr (.inl ⟨rfl,.inr ⟨h1,by simpa[notG] using h2⟩⟩),by simp only; omega⟩
 split
 ·exact ⟨fun y h=>.inl h,fun y h=>h,.inl ⟨rfl,rfl⟩,by simp only; omega⟩
 split
 ·exact ⟨fun y h=>.inl h,fun y h=>h,.inr (.inl ⟨rfl,.inl rfl⟩),by simp only; omega⟩
 split
 ·rename_i hc;exact ⟨fun y h=>.inl h,fun y h=>h,.inr (.inr (.inl ⟨rfl,rfl,rfl,hc⟩)),by simp only; omega⟩
 ·refine ⟨fun y h=>?_,fun y h=>h,.inl ⟨rfl,rfl⟩,by simp only; omega⟩;rcases List.mem_append.1 (show y ∈ a.recvs++[w] from h) with h | h
  ·exact .inl h
  ·exact .inr ⟨List.mem_singleton.1 h,rfl⟩
theorem Ydc (a:AC) (b:Bool) (w:W):OffOut a b w (a.off b w):=by
 cases b with
 | true=>exact Yhm a w
 | false=>exact Yfm a w
theorem Y7z {α:Type} {l:List α} {k:Nat} (hk:k < l.length) (z a:α) (j:Nat):(l.set k a).getD j z=if j=k then a else l.getD j z:=by
 by_cases e:j=k
 ·subst e; rw[if_pos rfl]; simp[List.getD,hk]
 ·rw[if_neg e]; simp[List.getD,List.getElem?_set,Ne.symm e]
theorem Ybm {α:Type} {l:List α} {k:Nat} (h:k < l.length) (z:α):l.getD k z ∈ l:=by simp[List.getD,h]
theorem Ycx {l:List W} (h:(l.map keyW).Nodup) (hb:∀ x ∈ l,0 <= x.1/\x.1 < 8/\0 <= x.2.1/\x.2.1 < 4):l.length <= 32:=by
 have h2:=Ycy (l.map keyW) ((List.range 8).flatMap fun (g:Nat)=>(List.range 4).map fun (c:Nat)=>((g:Int),(c:Int))) h (by
  intro y hy;obtain ⟨x,hx,rfl⟩:=List.mem_map.1 hy;obtain ⟨a,b,c,d⟩:=hb x hx;rw[List.mem_flatMap];refine ⟨x.1.toNat,by rw[List.mem_range]; omega,?_⟩;rw[List.mem_map];refine ⟨x.2.1.toNat,by rw[List.mem_range]; omega,?_⟩;unfold keyW;rw[show ((x.1.toNat:Nat):Int)=x.1 by omega,show ((x.2.1.toNat:Nat):Int)=x.2.1 by omega])
 rw[List.length_map] at h2;exact h2
theorem Yhi {p:Pg} (hp:RightP p) (a:Int):(selAt p a).1.length <= 4:=by
 unfold selAt;by_cases h:a.toNat < p.2.2.2.2.1.length
 ·exact (hp.sels _ (Ybm h zSl)).1
 ·simp[List.getD,h,zSl]
theorem Y3c {p:Pg} (hp:RightP p) {a k:Int} (ha:0 <= a/\a < p.2.2.2.2.1.length) (hk:0 <= k/\k < (selAt p a).1.length):0 <= (caseAt p a k).2/\(caseAt p a k).2 < p.1.length:=by
 have h1:a.toNat < p.2.2.2.2.1.length:=by omega
 have h2:=(hp.sels _ (Ybm h1 zSl)).2;have h3:k.toNat < (selAt p a).1.length:=by omega
 exact h2 _ (Ybm h3 (false,0))
section
variable {s:MS} {cur:Int}
theorem GI.gok (h:GI s cur) {g:Int} (hg:0 <= g/\g < s.gs.length):gOK s.p (s.g g):=h.gor _ (Y7t hg)
theorem GI.chok (h:GI s cur) {k:Int} (hk:0 <= k/\k < s.cs.length):(s.ch k).Ok:=h.ch _ (Ybm (by omega) zA)
theorem GI.cw' (h:GI s cur) {k:Int} (hk:0 <= k/\k < s.cs.length) (b:Bool):∀ x ∈ (s.ch k).mine b,s.fitW cur x k b:=by
 obtain ⟨n,rfl⟩:∃ n:Nat,k=n:=⟨k.toNat,by omega⟩
 have:=h.cw n (by omega);cases b with
 | true=>exact this.1
 | false=>exact this.2
theorem Yjr (a:AC) (b:Bool):a.theirs b=a.mine (!b):=by cases b <;> rfl
theorem Y73 (h:GI s cur) {x:W} {k:Int} {b:Bool} (hf:s.fitW cur x k b):0 <= x.1/\x.1 < 8/\0 <= x.2.1/\x.2.1 < 4:=by
 obtain ⟨⟨h1,h2,_⟩,h4⟩:=hf;have:=h.gl.2;refine ⟨h1,by omega,?_⟩;rcases h4 with ⟨_,a,b,_⟩ | ⟨_,a,_⟩
 ·have:=Yhi h.rp (s.instr x.1).2.1;omega
 ·omega
theorem GI.mine_len (h:GI s cur) {k:Int} (hk:0 <= k/\k < s.cs.length) (b:Bool):((s.ch k).mine b).length <= 32:=by
 refine Ycx ?_ (fun x hx=>Y73 h (h.cw' hk b x hx));have:=h.chok hk;cases b with
 | true=>exact this.sw.2.2
 | false=>exact this.rw.2.2
theorem GI.weak (h:GI s (-1)) (cur:Int):GI s cur:=by
 have w:∀ x:W,s.who (-1) x->s.who cur x:=fun x ⟨a,b,c⟩=>⟨a,b,.inl (c.resolve_right (fun q=>by omega))⟩
 exact ⟨h.rp,h.gl,h.gor,h.cl,h.ch,h.cc,fun k hk=>⟨fun x hx=>⟨w x ((h.cw k hk).1 x hx).1,((h.cw k hk).1 x hx).2⟩,fun x hx=>⟨w x ((h.cw k hk).2 x hx).1,((h.cw k hk).2 x hx).2⟩⟩,h.ll,h.lok,fun k hk x hx=>⟨w x (h.lw k hk x hx).1,(h.lw k hk x hx).2⟩,h.ol,h.ook,fun k hk x hx=>⟨w x (h.ow k hk x hx).1,(h.ow k hk x hx).2⟩⟩
theorem GI.newW (h:GI s (-1)) {k:Int} (hk:0 <= k/\k < s.cs.length) (b:Bool) {x:W} (hx:(s.g x.1).2.2.1 ≠ 1):newW ((s.ch k).mine b) x:=by
 refine ⟨fun hm=>?_,by have:=h.mine_len hk b; omega⟩;obtain ⟨y,hy,e⟩:=List.mem_map.1 hm
 have e1:y.1=x.1:=by have:(keyW y).1=(keyW x).1:=by rw[e]
                     exact this
 obtain ⟨⟨h1,_,h3⟩,_⟩:=h.cw' hk b y hy;rw[e1] at h3;rcases h3 with h3 | h3
 ·exact hx h3
 ·rw[e1] at h1; omega
theorem GI.offer (h:GI s cur) {x:W} {k:Int} {b:Bool} (hk:0 <= k/\k < s.cs.length) (hf:s.fitW cur x k b) (hok:((s.ch k).off b x).1.Ok):GI (s.offer x k b).2 cur:=by
 have ho:=Ydc (s.ch k) b x;have hkn:k.toNat < s.cs.length:=by omega
 have hch:∀ j:Nat,(s.offer x k b).2.ch j=if j=k.toNat then ((s.ch k).off b x).1 else s.ch j:=by
  intro j;show (s.cs.set (toN k) ((s.ch k).off b x).1).getD j zA=_;exact Y7z hkn zA _ j
 have hkk:((k.toNat:Nat):Int)=k:=by omega
 have mn:∀ (a:AC) (c:Bool),(∀ y ∈ a.sends,s.fitW cur y k true)->(∀ y ∈ a.recvs,s.fitW cur y k false)->∀ y ∈ a.mine c,s.fitW cur y k c:=by
  intro a c q1 q2;cases c with
  | true=>exact q1
  | false=>exact q2
 have both:∀ c:Bool,∀ y ∈ ((s.ch k).off b x).1.mine c,s.fitW cur y k c:=by
  intro c y hy;by_cases e:c=b
  ·subst e;rcases ho.mine y hy with q | ⟨q,_⟩
   ·exact h.cw' hk c y q
   ·rw[q]; exact hf
  ·have e:c=!b:=by cases c <;> cases b <;> simp_all
   subst e;rw[<- Yjr] at hy;have:=ho.theirs y hy;rw[Yjr] at this;exact h.cw' hk _ y this
 refine ⟨h.rp,h.gl,h.gor,by show (s.cs.set _ _).length=_; rw[List.length_set]; exact h.cl,fun a ha=>?_,fun j hj=>?_,fun j hj=>?_,h.ll,h.lok,h.lw,h.ol,h.ook,h.ow⟩
 ·rcases List.mem_or_eq_of_mem_set ha with q | q
  ·exact h.ch a q
  ·rw[q]; exact hok
 ·have hj:j < s.cs.length:=by have:j < (s.cs.set (toN k) ((s.ch k).off b x).1).length:=hj; simpa using this
  rw[hch];split
  ·rename_i e;rw[Ydb,e,<- hkk];exact h.cc k.toNat hkn
  ·exact h.cc j hj
 ·have hj:j < s.cs.length:=by have:j < (s.cs.set (toN k) ((s.ch k).off b x).1).length:=hj; simpa using this
  rw[hch];split
  ·rename_i e;rw[e,hkk];exact ⟨both true,both false⟩
  ·exact h.cw j hj
theorem GI.gset (h:GI s cur) {g:Int} (hg:0 <= g/\g < s.gs.length) {x:Gor} (hx:gOK s.p x) (cur':Int)
  (hc:∀ k:Nat,k < s.cs.length->∀ b,∀ y ∈ (s.ch k).mine b,y.1 ≠ g) (hl:∀ k:Nat,k < s.ls.length->∀ y ∈ (s.lk k).2,y.1 ≠ g) (ho:∀ k:Nat,k < s.os.length->∀ y ∈ (s.oc k).2.2,y.1 ≠ g)
  (hcur:cur'=cur \/ cur=g):GI (s.gset g x) cur':=by
 have hgne:∀ y:W,0 <= y.1->y.1 ≠ g->(s.gset g x).g y.1=s.g y.1:=fun y h0 hne=>gAt_ne hg.1 h0 (Ne.symm hne) x
 have w:∀ y:W,y.1 ≠ g->s.who cur y->(s.gset g x).who cur' y:=by
  rintro y hne ⟨a,b,c⟩;refine ⟨a,by show y.1 < ((s.gs.set (toN g) x).length:Int); rw[List.length_set]; exact b,?_⟩;rw[hgne y a hne];rcases c with c | c
  ·exact .inl c
  ·rcases hcur with e | e
   ·rw[e]; exact .inr c
   ·exact absurd (c.1.trans e) hne
 have ins:∀ y:W,0 <= y.1->y.1 ≠ g->(s.gset g x).instr y.1=s.instr y.1:=fun y h0 hne=>by unfold MS.instr; rw[hgne y h0 hne]
 refine ⟨h.rp,by show 1 <= (s.gs.set (toN g) x).length/\(s.gs.set (toN g) x).length <= 8; rw[List.length_set]; exact h.gl,fun y hy=>?_,h.cl,h.ch,h.cc,fun k hk=>⟨fun y hy=>?_,fun y hy=>?_⟩,h.ll,h.lok,fun k hk y hy=>?_,h.ol,h.ook,fun k hk y hy=>?_⟩
 ·rcases List.mem_or_eq_of_mem_set hy with q | q
  ·exact h.gor y q
  ·rw[q]; exact hx
 ·have hne:=hc k hk true y hy;obtain ⟨q1,q2⟩:=(h.cw k hk).1 y hy;exact ⟨w y hne q1,by rw[ins y q1.1 hne]; exact q2⟩
 ·have hne:=hc k hk false y hy;obtain ⟨q1,q2⟩:=(h.cw k hk).2 y hy;exact ⟨w y hne q1,by rw[ins y q1.1 hne]; exact q2⟩
 ·have hne:=hl k hk y hy;obtain ⟨q1,q2⟩:=h.lw k hk y hy;exact ⟨w y hne q1,by rw[ins y q1.1 hne]; exact q2⟩
 ·have hne:=ho k hk y hy;obtain ⟨q1,q2⟩:=h.ow k hk y hy;exact ⟨w y hne q1,by rw[ins y q1.1 hne]; exact q2⟩
theorem GI.wait (h:GI s cur) (hg:0 <= cur/\cur < s.gs.length) (hs:(s.g cur).2.2.1=0):GI (s.wait cur) (-1):=by
 have hok:=h.gok hg;have hne2:(s.g cur).2.1 ≠ (blk s.p (s.g cur).1).length:=fun e=>by have:=hok.2.2.2.2.2.2.1 e; omega
 have hx:gOK s.p (gWait (s.g cur)):=⟨hok.1,hok.2.1,hok.2.2.1,hok.2.2.2.1,by show (0:Int) <= 1; omega,by show (1:Int) <= 2; omega,by
  show (s.g cur).2.1=(blk s.p (s.g cur).1).length ↔ (1:Int)=2;exact ⟨fun e=>absurd e hne2,fun e=>by omega⟩⟩
 have hgat:(s.wait cur).g cur=gWait (s.g cur):=Y7u hg _;have hgne:∀ y:W,0 <= y.1->y.1 ≠ cur->(s.wait cur).g y.1=s.g y.1:=fun y h0 hne=>gAt_ne hg.1 h0 (Ne.symm hne) _
 have w:∀ y:W,s.who cur y->(s.wait cur).who (-1) y:=by
  rintro y ⟨a,b,c⟩;refine ⟨a,by show y.1 < ((s.gs.set (toN cur) _).length:Int); rw[List.length_set]; exact b,.inl ?_⟩;by_cases e:y.1=cur
  ·rw[e,hgat]; rfl
  ·rw[hgne y a e];exact c.resolve_right (fun q=>e q.1)
 have ins:∀ y:W,0 <= y.1->(s.wait cur).instr y.1=s.instr y.1:=by
  intro y h0;unfold MS.instr;by_cases e:y.1=cur
  ·rw[e,hgat]; rfl
  ·rw[hgne y h0 e]; rfl
 refine ⟨h.rp,by show 1 <= (s.gs.set (toN cur) _).length/\(s.gs.set (toN cur) _).length <= 8; rw[List.length_set]; exact h.gl,fun y hy=>?_,h.cl,h.ch,h.cc,fun k hk=>⟨fun y hy=>?_,fun y hy=>?_⟩,h.ll,h.lok,fun k hk y hy=>?_,h.ol,h.ook,fun k hk y hy=>?_⟩
 ·rcases List.mem_or_eq_of_mem_set hy with q | q
  ·exact h.gor y q
  ·rw[q]; exact hx
 ·obtain ⟨q1,q2⟩:=(h.cw k hk).1 y hy;exact ⟨w y q1,by rw[ins y q1.1]; exact q2⟩
 ·obtain ⟨q1,q2⟩:=(h.cw k hk).2 y hy;exact ⟨w y q1,by rw[ins y q1.1]; exact q2⟩
 ·obtain ⟨q1,q2⟩:=h.lw k hk y hy;exact ⟨w y q1,by rw[ins y q1.1]; exact q2⟩
 ·obtain ⟨q1,q2⟩:=h.ow k hk y hy;exact ⟨w y q1,by rw[ins y q1.1]; exact q2⟩
theorem gTo_ok {p:Pg} {x:Gor} (hx:gOK p x) {pc:Int} (h:0 <= pc/\pc <= (blk p x.1).length):gOK p (gTo p x pc):=by
 refine ⟨hx.1,hx.2.1,h.1,h.2,?_,?_,?_⟩
 ·show 0 <= if pc=(blk p x.1).length then (2:Int) else 0
  split <;> omega
 ·show (if pc=(blk p x.1).length then (2:Int) else 0) <= 2;split <;> omega
 ·show pc=(blk p x.1).length ↔ (if pc=(blk p x.1).length then (2:Int) else 0)=2;split
  ·rename_i e; exact ⟨fun _=>rfl,fun _=>e⟩
  ·rename_i e; exact ⟨fun q=>absurd q e,fun q=>by omega⟩
theorem gCl_ok {p:Pg} {x:Gor} (hx:gOK p x) (b:Bool):gOK p (gCl x b):=hx
theorem GI.tell (h:GI s cur) (e:Ev):GI (s.tell e) cur:=⟨h.rp,h.gl,h.gor,h.cl,h.ch,h.cc,h.cw,h.ll,h.lok,h.lw,h.ol,h.ook,h.ow⟩
theorem GI.st (h:GI s cur) (n:Int):GI { s with st:=n } cur:=⟨h.rp,h.gl,h.gor,h.cl,h.ch,h.cc,h.cw,h.ll,h.lok,h.lw,h.ol,h.ook,h.ow⟩
theorem Ya2 (a:AC) (g:Int) (b:Bool):(a.leave g).mine b=(a.mine b).filter (notG g):=by cases b <;> rfl
theorem GI.leave (h:GI s cur) (g:Int):GI (s.leave g) cur:=by
 have hlen:(s.leave g).cs.length=s.cs.length:=by show (s.cs.map _).length=_; rw[List.length_map]
 have hch:∀ j:Nat,j < s.cs.length->(s.leave g).ch j=(s.ch j).leave g:=by
  intro j hj;show (s.cs.map fun a=>a.leave g).getD j zA=(s.cs.getD j zA).leave g;simp[List.getD,hj]
 refine ⟨h.rp,h.gl,h.gor,hlen.trans h.cl,fun a ha=>?_,fun k hk=>?_,fun k hk=>⟨fun y hy=>?_,fun y hy=>?_⟩,h.ll,h.lok,h.lw,h.ol,h.ook,h.ow⟩
 ·obtain ⟨a',ha',e⟩:=List.mem_map.1 ha;rw[<- e]; exact (h.ch a' ha').leave g
 ·rw[hlen] at hk; rw[hch k hk]; exact h.cc k hk
 ·rw[hlen] at hk; rw[hch k hk] at hy; exact (h.cw k hk).1 y (List.mem_filter.1 hy).1
 ·rw[hlen] at hk; rw[hch k hk] at hy; exact (h.cw k hk).2 y (List.mem_filter.1 hy).1
end
def MS.doneE (s:MS) (x:W) (k no:Int) (b:Bool):Ev:=if s.sends x=true then (x.1,3,k,no,x.2.2) else if b=true then (x.1,6,k,0,x.2.2) else (x.1,5,k,no,x.2.2)
def MS.doneC (s:MS) (x:W) (b:Bool):Bool:=if s.sends x=true then (s.g x.1).2.2.2 else b
theorem on_set (s:MS) {g:Int} (hg:0 <= g/\g < s.gs.length) (x:Gor):(s.gset g x).on g=s.gset g (gTo s.p x (x.2.1+1)):=by
 have e:(s.gset g x).g g=x:=Y7u hg x;unfold MS.on MS.to;rw[e];show ({ (s.gset g x) with gs:=(s.gs.set (toN g) x).set (toN g) _ }:MS)=_;rw[set_set']
theorem Y5f (s:MS) (x:W) (hg:0 <= x.1/\x.1 < s.gs.length) (k no:Int) (b:Bool):s.done x k no b=((s.leave x.1).tell (s.doneE x k no b)).gset x.1 (gTo s.p (gCl (s.g x.1) (s.doneC x b)) ((s.g x.1).2.1+1)):=by
 unfold MS.done MS.done1 MS.doneE MS.doneC;by_cases h1:s.sends x=true
 ·rw[if_pos h1,if_pos h1,if_pos h1]; rfl
 rw[if_neg h1,if_neg h1,if_neg h1];by_cases h2:b=true
 ·rw[if_pos h2,if_pos h2,on_set (s.tell (x.1,6,k,0,x.2.2)) hg,h2]; rfl
 ·have h2:b=false:=by simpa using h2
  subst h2;rw[if_neg (by simp),if_neg (by simp),on_set (s.tell (x.1,5,k,no,x.2.2)) hg]; rfl
theorem fit_op {p:Pg} {i:In} {c k:Int} {b:Bool} (h:fitI p i c b k):i.1 ≠ 5/\i.1 ≠ 7/\i.1 ≠ 3:=by
 rcases h with ⟨a,_⟩ | ⟨a,_⟩
 ·omega
 ·split at a <;> omega
section
variable {s:MS} {cur:Int}
theorem GI.done (h:GI s cur) {x:W} {k0:Int} {b0:Bool} (hf:s.fitW cur x k0 b0) (k no:Int) (b:Bool) (cur':Int) (hcur:cur'=cur \/ cur=x.1):GI (s.done x k no b) cur':=by
 obtain ⟨⟨g1,g2,g3⟩,f⟩:=hf;have hfo:=fit_op f;have hok:=h.gok ⟨g1,g2⟩;have hpc:(s.g x.1).2.1 ≠ (blk s.p (s.g x.1).1).length:=fun e=>by have:=hok.2.2.2.2.2.2.1 e; omega
 rw[Y5f s x ⟨g1,g2⟩];refine ((h.leave x.1).tell _).gset ⟨g1,g2⟩ (gTo_ok (gCl_ok hok _) ?_) cur' ?_ ?_ ?_ hcur
 ·have:=hok.2.2.1;have:=hok.2.2.2.1;refine ⟨by omega,?_⟩;show (s.g x.1).2.1+1 <= (blk s.p (s.g x.1).1).length;omega
 ·intro j hj c y hy;have hj:j < s.cs.length:=by have:j < (s.cs.map fun a=>a.leave x.1).length:=hj; simpa using this
  have e:((s.leave x.1).tell (s.doneE x k no b)).ch j=(s.ch j).leave x.1:=by
   show (s.cs.map fun a=>a.leave x.1).getD j zA=(s.cs.getD j zA).leave x.1;simp[List.getD,hj]
  rw[e,Ya2] at hy;have:=(List.mem_filter.1 hy).2;simpa[notG] using this
 ·intro j hj y hy e;have:=(h.lw j hj y hy).2.2.1;rw[e] at this;exact hfo.1 this
 ·intro j hj y hy e;have:=(h.ow j hj y hy).2.2.1;rw[e] at this;exact hfo.2.1 this
theorem GI.offer' (h:GI s cur) {x:W} {k:Int} {b:Bool} (hk:0 <= k/\k < s.cs.length) (hn:(s.offer x k b).1.1 ≠ 0) (hok:((s.ch k).off b x).1.Ok):GI (s.offer x k b).2 cur:=by
 have ho:=Ydc (s.ch k) b x;have hkn:k.toNat < s.cs.length:=by omega
 have hch:∀ j:Nat,(s.offer x k b).2.ch j=if j=k.toNat then ((s.ch k).off b x).1 else s.ch j:=by
  intro j;show (s.cs.set (toN k) ((s.ch k).off b x).1).getD j zA=_;exact Y7z hkn zA _ j
 have hkk:((k.toNat:Nat):Int)=k:=by omega
 have both:∀ c:Bool,∀ y ∈ ((s.ch k).off b x).1.mine c,s.fitW cur y k c:=by
  intro c y hy;by_cases e:c=b
  ·subst e;rcases ho.mine y hy with q | ⟨_,q⟩
   ·exact h.cw' hk c y q
   ·exact absurd q hn
  ·have e:c=!b:=by cases c <;> cases b <;> simp_all
   subst e;rw[<- Yjr] at hy;have:=ho.theirs y hy;rw[Yjr] at this;exact h.cw' hk _ y this
 refine ⟨h.rp,h.gl,h.gor,by show (s.cs.set _ _).length=_; rw[List.length_set]; exact h.cl,fun a ha=>?_,fun j hj=>?_,fun j hj=>?_,h.ll,h.lok,h.lw,h.ol,h.ook,h.ow⟩
 ·rcases List.mem_or_eq_of_mem_set ha with q | q
  ·exact h.ch a q
  ·rw[q]; exact hok
 ·have hj:j < s.cs.length:=by have:j < (s.cs.set (toN k) ((s.ch k).off b x).1).length:=hj; simpa using this
  rw[hch];split
  ·rename_i e;rw[Ydb,e,<- hkk];exact h.cc k.toNat hkn
  ·exact h.cc j hj
 ·have hj:j < s.cs.length:=by have:j < (s.cs.set (toN k) ((s.ch k).off b x).1).length:=hj; simpa using this
  rw[hch];split
  ·rename_i e;rw[e,hkk];exact ⟨both true,both false⟩
  ·exact h.cw j hj
theorem GI.none (h:GI s (-1)) {g:Int} (hr:(s.g g).2.2.1 ≠ 1):(∀ k:Int,0 <= k/\k < s.cs.length->∀ b,∀ y ∈ (s.ch k).mine b,y.1 ≠ g)/\(∀ k:Nat,k < s.ls.length->∀ y ∈ (s.lk k).2,y.1 ≠ g)/\(∀ k:Nat,k < s.os.length->∀ y ∈ (s.oc k).2.2,y.1 ≠ g):=by
 have w:∀ y:W,s.who (-1) y->y.1 ≠ g:=by
  rintro y ⟨a,b,c⟩ e;rw[e] at a c;rcases c with c | c
  ·exact hr c
  ·omega
 exact ⟨fun k hk b y hy=>w y (h.cw' hk b y hy).1,fun k hk y hy=>w y (h.lw k hk y hy).1,fun k hk y hy=>w y (h.ow k hk y hy).1⟩
theorem Y6v {l:List W} {g:Int} (h:∀ y ∈ l,y.1 ≠ g) (hf:l.find? (notG g)=none):l=[]:=by
 cases l with
 | nil=>rfl
 | cons a l =>
  have:=List.find?_eq_none.1 hf a (List.mem_cons_self ..);exact absurd (by simpa[notG] using h a (List.mem_cons_self ..)) this
theorem GI.off_ok (h:GI s (-1)) {x:W} {k:Int} {b:Bool} (hk:0 <= k/\k < s.cs.length) (hr:(s.g x.1).2.2.1 ≠ 1) (hw:isW x) (hs:(s.ch k).sent < 1048576):((s.ch k).off b x).1.Ok:=by
 have hn:=h.none hr;have hnw:=h.newW hk b hr;unfold AC.off;cases b with
 | true=>exact (h.chok hk).send hw hnw hs (fun q _=>Y6v (hn.1 k hk false) q)
 | false=>exact (h.chok hk).recv hw hnw hs (fun q _=>Y6v (hn.1 k hk true) q)
theorem done_g (s:MS) (x:W) (hg:0 <= x.1/\x.1 < s.gs.length) (k no:Int) (b:Bool) {g:Int} (h0:0 <= g) (hne:g ≠ x.1):(s.done x k no b).g g=s.g g:=by
 rw[Y5f s x hg];exact gAt_ne hg.1 h0 (Ne.symm hne) _
theorem Y5g (s:MS) (x:W) (hg:0 <= x.1/\x.1 < s.gs.length) (k no:Int) (b:Bool):(s.done x k no b).gs.length=s.gs.length:=by
 rw[Y5f s x hg];exact List.length_set
theorem GI.pass (h:GI s (-1)) {x:W} {k:Int} {b:Bool} (hk:0 <= k/\k < s.cs.length) (hg:0 <= x.1/\x.1 < s.gs.length) (hr:(s.g x.1).2.2.1=0) (hw:isW x) (hs:(s.ch k).sent < 1048576) (hf:fitI s.p (s.instr x.1) x.2.1 b k) :
  GI (s.pass x k b) (-1)/\OfferOK s x k b /\
  ((s.offer x k b).1.1 ≠ 0->(s.offer x k b).1.1 ≠ 3->(s.offer x k b).1.2.2.1.1 ≠ -1->DoneOK (s.offer x k b).2 (s.offer x k b).1.2.2.1) /\
  ((s.offer x k b).1.1 ≠ 0->(s.offer x k b).1.1 ≠ 3->DoneOK (if (s.offer x k b).1.2.2.1.1=-1 then (s.offer x k b).2 else (s.offer x k b).2.done (s.offer x k b).1.2.2.1 k (s.offer x k b).1.2.2.2 false) x):=by
 have hr1:(s.g x.1).2.2.1 ≠ 1:=by omega
 have hok:=h.off_ok (b:=b) hk hr1 hw hs;have hoo:OfferOK s x k b:=⟨hk,h.chok hk,hw,h.newW hk b hr1,hs⟩
 have hfw:s.fitW x.1 x k b:=⟨⟨hg.1,hg.2,.inr ⟨rfl,hr⟩⟩,hf⟩
 have hout:=Ydc (s.ch k) b x;have hkd:(s.offer x k b).1=((s.ch k).off b x).2:=rfl;by_cases c0:(s.offer x k b).1.1=0
 ·refine ⟨?_,hoo,fun q=>absurd c0 q,fun q=>absurd c0 q⟩;unfold MS.pass;rw[if_pos c0];exact ((h.weak x.1).offer hk hfw hok).wait hg hr
 have h1:GI (s.offer x k b).2 (-1):=h.offer' hk c0 hok;by_cases c3:(s.offer x k b).1.1=3
 ·refine ⟨?_,hoo,fun _ q=>absurd c3 q,fun _ q=>absurd c3 q⟩;unfold MS.pass;rw[if_neg c0,if_pos c3];exact h1.st 3
 by_cases cw:(s.offer x k b).1.2.2.1.1=-1
 ·have hx1:(s.offer x k b).2.fitW x.1 x k b:=hfw;refine ⟨?_,hoo,fun _ _ q=>absurd cw q,fun _ _=>by rw[if_pos cw]; exact (h1.weak x.1).done_ok hx1⟩;unfold MS.pass;rw[if_neg c0,if_neg c3,if_pos cw];exact (h1.weak x.1).done hx1 k _ _ (-1) (.inr rfl)
 ·have hv:(s.offer x k b).1.2.2.1 ∈ (s.ch k).theirs b/\(s.offer x k b).1.2.2.1.1 ≠ x.1:=by
   rcases hout.kind with q | ⟨q1,q2⟩ | q | q
   ·exact absurd q.1 c0
   ·rcases q2 with q2 | q2
    ·exact absurd (by rw[hkd,q2]; rfl) cw
    ·exact q2
   ·exact absurd (by rw[hkd,q.2.2.1]; rfl) cw
   ·exact absurd q.1 c3
  have hvf:(s.offer x k b).2.fitW (-1) (s.offer x k b).1.2.2.1 k (!b):=by
   have:=hv.1;rw[Yjr] at this;exact h.cw' hk _ _ this
  have hvg:0 <= (s.offer x k b).1.2.2.1.1/\(s.offer x k b).1.2.2.1.1 < (s.offer x k b).2.gs.length:=⟨hvf.1.1,hvf.1.2.1⟩
  have h2:GI ((s.offer x k b).2.done (s.offer x k b).1.2.2.1 k (s.offer x k b).1.2.2.2 false) (-1):=h1.done hvf k _ _ (-1) (.inl rfl);have hgx:((s.offer x k b).2.done (s.offer x k b).1.2.2.1 k (s.offer x k b).1.2.2.2 false).g x.1=s.g x.1:=done_g _ _ hvg _ _ _ hg.1 (Ne.symm hv.2)
  have hx2:((s.offer x k b).2.done (s.offer x k b).1.2.2.1 k (s.offer x k b).1.2.2.2 false).fitW x.1 x k b:=by
   refine ⟨⟨hg.1,by rw[Y5g _ _ hvg]; exact hg.2,.inr ⟨rfl,by rw[hgx]; exact hr⟩⟩,?_⟩;have e1:((s.offer x k b).2.done (s.offer x k b).1.2.2.1 k (s.offer x k b).1.2.2.2 false).p=s.p:=done_p _ _ _ _ _;unfold MS.instr;rw[hgx,e1]; exact hf
  refine ⟨?_,hoo,fun _ _ _=>h1.done_ok hvf,fun _ _=>by rw[if_neg cw]; exact (h2.weak x.1).done_ok hx2⟩;unfold MS.pass;rw[if_neg c0,if_neg c3,if_neg cw];exact (h2.weak x.1).done hx2 k _ _ (-1) (.inr rfl)
end
def upto {S:Type} (nx:Nat->S->S):Nat->Nat->S->S
 | _,0,s=>s
 | k,m+1,s=>upto nx (k+1) m (nx k s)
theorem Yav {X Y S:Type} {f:X->Option (X ⊕ Y)} (n:Nat) (st:Nat->S->X) (nx:Nat->S->S) (P:Nat->S->Prop) (out:S->Y)
  (h1:∀ k s,k < n->P k s->f (st k s)=some (.inl (st (k+1) (nx k s)))/\P (k+1) (nx k s)) (h2:∀ s,P n s->f (st n s)=some (.inr (out s))) :
  ∀ s,P 0 s->loop f (st 0 s)=some (out (upto nx 0 n s))/\P n (upto nx 0 n s):=by
 have:∀ m k s,k+m=n->P k s->loop f (st k s)=some (out (upto nx k m s))/\P n (upto nx k m s):=by
  intro m;induction m with
  | zero =>
   intro k s e hp;obtain rfl:k=n:=by omega
   exact ⟨by rw[Yaq,h2 s hp]; rfl,hp⟩
  | succ m ih =>
   intro k s e hp;obtain ⟨a,b⟩:=h1 k s (by omega) hp;obtain ⟨c,d⟩:=ih (k+1) (nx k s) (by omega) b;exact ⟨by rw[Yaq,a]; exact c,d⟩
 exact fun s hp=>this n 0 s (by omega) hp
abbrev MS.lset (s:MS) (k:Int) (l:Lk):MS:={ s with ls:=s.ls.set (toN k) l }
abbrev MS.oset (s:MS) (k:Int) (o:On):MS:={ s with os:=s.os.set (toN k) o }
def MS.sendO (s:MS) (g a:Int):MS:=(s.tell (g,2,a,0,-1)).pass (g,0,s.ev) a true
def MS.recvO (s:MS) (g a:Int):MS:=(s.tell (g,4,a,0,-1)).pass (g,0,s.ev) a false
def MS.locked (s:MS) (g a t:Int):MS:=(s.tell (g,11,a,0,t)).on g
def MS.lock (s:MS) (g a:Int):MS :=
 if (s.lk a).1=false then ((s.tell (g,10,a,0,-1)).lset a (true,[])).locked g a s.ev else ((s.tell (g,10,a,0,-1)).lset a (true,(s.lk a).2++[(g,0,s.ev)])).wait g
def MS.unlock (s:MS) (g a:Int):MS :=
 if (s.lk a).1=false then { s with st:=3 } else
 if (given (s.lk a).2).2.2=true then (((s.lset a (given (s.lk a).2).1).tell (g,12,a,0,-1)).on g).locked (given (s.lk a).2).2.1.1 a (given (s.lk a).2).2.1.2.2
 else ((s.lset a (given (s.lk a).2).1).tell (g,12,a,0,-1)).on g
def MS.skip (s:MS) (g t:Int):MS:=(s.tell (g,15,(s.instr g).2.1,0,t)).to g (s.instr g).2.2
def MS.doO (s:MS) (g a:Int):MS :=
 if (Go.Proofs.YtifbgkikkiallaaGreat.VX.VxZ_Z.done (s.oc a) (g,0,s.ev)).2.2 ≠ 0 then (s.tell (g,13,a,0,-1)).wait g else
 if (Go.Proofs.YtifbgkikkiallaaGreat.VX.VxZ_Z.done (s.oc a) (g,0,s.ev)).2.1=0 then ((s.tell (g,13,a,0,-1)).oset a (Go.Proofs.YtifbgkikkiallaaGreat.VX.VxZ_Z.done (s.oc a) (g,0,s.ev)).1).on g
 else if (Go.Proofs.YtifbgkikkiallaaGreat.VX.VxZ_Z.done (s.oc a) (g,0,s.ev)).2.1=1 then ((s.tell (g,13,a,0,-1)).oset a (Go.Proofs.YtifbgkikkiallaaGreat.VX.VxZ_Z.done (s.oc a) (g,0,s.ev)).1).wait g
 else ((s.tell (g,13,a,0,-1)).oset a (Go.Proofs.YtifbgkikkiallaaGreat.VX.VxZ_Z.done (s.oc a) (g,0,s.ev)).1).skip g s.ev
def MS.skips (s:MS) (l:List W):MS:=upto (fun k s=>s.skip (l.getD k zeroW).1 (l.getD k zeroW).2.2) 0 l.length s
def MS.endO (s:MS) (g a:Int):MS :=
 if (s.oc a).1=1/\(s.oc a).2.1=g then (((s.oset a (2,0,[])).tell (g,14,a,0,-1)).on g).skips (s.oc a).2.2 else { s with st:=3 }
abbrev MS.add (s:MS) (x:Gor):MS:={ s with gs:=s.gs++[x] }
def MS.beginO (s:MS) (g a:Int):MS :=
 if s.gs.length=8 then { s with st:=4 } else
 (((((s.tell (g,1,s.gs.length,0,-1)).tell (s.gs.length,0,0,0,s.ev))).add (gTo s.p (a,0,0,false) 0))).on g
def MS.access (s:MS) (k g a:Int):MS:=(s.tell (g,k,a,0,-1)).on g
def MS.orElse (s:MS) (g a:Int):MS:=if (s.g g).2.2.2=true then s.to g a else s.on g
theorem lkz_eq (ls:List Lk) (k:Int):getAt (false,([]:List W)) ls (toN k)=ls.getD k.toNat (false,[]):=by rw[Y7v]; rfl
theorem ocz_eq (os:List On) (k:Int):getAt ((0:Int),((0:Int),([]:List W))) os (toN k)=os.getD k.toNat zeroO:=by rw[Y7v]; rfl
structure Rdy (s:MS) (g:Int):Prop where
 hg:0 <= g/\g < s.gs.length
 st:(s.g g).2.2.1=0
section
variable {s:MS} {g:Int}
theorem Rdy.inok (r:Rdy s g) (h:GI s (-1)):InOK s.p (blk s.p (s.g g).1) (s.instr g):=Y8p h.rp (h.gok r.hg) (by have:=r.st; omega)
theorem Rdy.pc (r:Rdy s g) (h:GI s (-1)):0 <= (s.g g).2.1/\(s.g g).2.1+1 <= (blk s.p (s.g g).1).length/\(blk s.p (s.g g).1).length <= 24:=by
 have hok:=h.gok r.hg;have h1:(s.g g).2.1 ≠ (blk s.p (s.g g).1).length:=fun e=>by have:=hok.2.2.2.2.2.2.1 e; have:=r.st; omega
 have:=hok.2.2.1;have:=hok.2.2.2.1;exact ⟨by omega,by omega,Y2n h.rp hok⟩
theorem on_x (s:MS) (cs:List Ch) (hg:0 <= g/\g < s.gs.length) (hok:gOK s.p (s.g g)) (hl:(blk s.p (s.g g).1).length <= 24):Z2i (g,s.t cs)=some ((s.on g).t cs) :=
 goOn_x s.p s.ev s.st s.gs cs s.ls s.os s.L g hg hok.1 hok.2.1 ⟨hok.2.2.1,by have:=hok.2.2.2.1; show (s.g g).2.1 <= 1000; omega⟩
theorem to_x (s:MS) (cs:List Ch) (pc:Int) (hg:0 <= g/\g < s.gs.length) (hok:gOK s.p (s.g g)):Z2k (g,pc,s.t cs)=some ((s.to g pc).t cs) :=
 goTo_x s.p s.ev s.st s.gs cs s.ls s.os s.L g pc hg hok.1 hok.2.1
theorem tel_x (s:MS) (cs:List Ch) (k o n t:Int) {m:Nat} (hb:s.Bd m):Z3l (g,k,o,n,t,s.t cs)=some (s.ev,(s.tell (g,k,o,n,t)).t cs) :=
 tell_x s.p s.ev s.st s.gs cs s.ls s.os s.L g k o n t (by have:=hb.1; omega) ⟨hb.2.1,by have:=hb.2.2; omega⟩
theorem wai_x (s:MS) (cs:List Ch) (hg:0 <= g/\g < s.gs.length):Z3p (g,s.t cs)=some ((s.wait g).t cs):=wait_x s.p s.ev s.st s.gs cs s.ls s.os s.L g hg
theorem ins_x (s:MS) (cs:List Ch) (hg:0 <= g/\g < s.gs.length) (hok:gOK s.p (s.g g)) (hr:(s.g g).2.2.1 ≠ 2):Z2m (g,s.t cs)=some (s.instr g,s.t cs):=Y98 s.p s.ev s.st s.gs cs s.ls s.os s.L g hg hok hr
theorem GI.to (h:GI s (-1)) (hg:0 <= g/\g < s.gs.length) {pc:Int} (hp:0 <= pc/\pc <= (blk s.p (s.g g).1).length)
  (hn:(∀ k:Int,0 <= k/\k < s.cs.length->∀ b,∀ y ∈ (s.ch k).mine b,y.1 ≠ g)/\(∀ k:Nat,k < s.ls.length->∀ y ∈ (s.lk k).2,y.1 ≠ g)/\(∀ k:Nat,k < s.os.length->∀ y ∈ (s.oc k).2.2,y.1 ≠ g)):GI (s.to g pc) (-1) :=
 h.gset hg (gTo_ok (h.gok hg) hp) (-1) (fun k hk b y hy=>hn.1 k ⟨by omega,by omega⟩ b y hy) hn.2.1 hn.2.2 (.inl rfl)
theorem GI.on (h:GI s (-1)) (r:Rdy s g):GI (s.on g) (-1):=by
 have:=r.pc h;exact h.to r.hg ⟨by omega,by omega⟩ (h.none (by have:=r.st; omega))
theorem GI.on' (h:GI s (-1)) (hg:0 <= g/\g < s.gs.length) (hs:(s.g g).2.2.1 ≠ 2)
  (hn:(∀ k:Int,0 <= k/\k < s.cs.length->∀ b,∀ y ∈ (s.ch k).mine b,y.1 ≠ g)/\(∀ k:Nat,k < s.ls.length->∀ y ∈ (s.lk k).2,y.1 ≠ g)/\(∀ k:Nat,k < s.os.length->∀ y ∈ (s.oc k).2.2,y.1 ≠ g)):GI (s.on g) (-1):=by
 have hok:=h.gok hg;have h1:(s.g g).2.1 ≠ (blk s.p (s.g g).1).length:=fun e=>hs (hok.2.2.2.2.2.2.1 e)
 have:=hok.2.2.1;have:=hok.2.2.2.1;exact h.to hg ⟨by omega,by omega⟩ hn
end
theorem send_x {s:MS} {cs:List Ch} {g:Int} (hr:RelCs cs s.cs) (h:GI s (-1)) (r:Rdy s g) (hb:s.Bd 4) (hs:∀ a ∈ s.cs,a.sent < 1048576) (c:Int) (hop:(s.instr g).1=1) :
  GI (s.sendO g (s.instr g).2.1) (-1)/\∃ cs',RelCs cs' (s.sendO g (s.instr g).2.1).cs/\Z38 ((g,c),s.instr g,s.t cs)=some ((s.sendO g (s.instr g).2.1).t cs'):=by
 have hi:=r.inok h
 have ha:0 <= (s.instr g).2.1/\(s.instr g).2.1 < s.cs.length:=by
  have h1:=hi.2.1;rw[hop] at h1;rw[h.cl];exact h1
 have h1:=(h.tell (g,2,(s.instr g).2.1,0,-1)).pass (x:=(g,0,s.ev)) (k:=(s.instr g).2.1) (b:=true) ha r.hg r.st ⟨r.hg.1,by show (0:Int) <= 0; omega,hb.2.1⟩ (hs _ (Ybm (by omega) zA)) (.inr ⟨hop,rfl,rfl⟩);refine ⟨h1.1,?_⟩;obtain ⟨cs',r1,e1⟩:=pass_x (s.tell (g,2,(s.instr g).2.1,0,-1)) cs hr (g,0,s.ev) (s.instr g).2.1 true h1.2.1 r.hg ((hb.tell _).le (by omega)) h1.2.2.1 h1.2.2.2;refine ⟨cs',r1,?_⟩;unfold Z38;simp only[neg1];rw[tel_x s cs 2 _ 0 (-1) hb];simp only[bS9];rw[e1];rfl
theorem recv_x {s:MS} {cs:List Ch} {g:Int} (hr:RelCs cs s.cs) (h:GI s (-1)) (r:Rdy s g) (hb:s.Bd 4) (hs:∀ a ∈ s.cs,a.sent < 1048576) (c:Int) (hop:(s.instr g).1=2) :
  GI (s.recvO g (s.instr g).2.1) (-1)/\∃ cs',RelCs cs' (s.recvO g (s.instr g).2.1).cs/\Z34 ((g,c),s.instr g,s.t cs)=some ((s.recvO g (s.instr g).2.1).t cs'):=by
 have hi:=r.inok h
 have ha:0 <= (s.instr g).2.1/\(s.instr g).2.1 < s.cs.length:=by
  have h1:=hi.2.1;rw[hop] at h1;rw[h.cl];exact h1
 have h1:=(h.tell (g,4,(s.instr g).2.1,0,-1)).pass (x:=(g,0,s.ev)) (k:=(s.instr g).2.1) (b:=false) ha r.hg r.st ⟨r.hg.1,by show (0:Int) <= 0; omega,hb.2.1⟩ (hs _ (Ybm (by omega) zA)) (.inr ⟨hop,rfl,rfl⟩);refine ⟨h1.1,?_⟩;obtain ⟨cs',r1,e1⟩:=pass_x (s.tell (g,4,(s.instr g).2.1,0,-1)) cs hr (g,0,s.ev) (s.instr g).2.1 false h1.2.1 r.hg ((hb.tell _).le (by omega)) h1.2.2.1 h1.2.2.2;refine ⟨cs',r1,?_⟩;unfold Z34;simp only[neg1];rw[tel_x s cs 4 _ 0 (-1) hb];simp only[bS9];rw[e1];rfl
theorem GI.lset {s:MS} {cur:Int} (h:GI s cur) {k:Int} (hk:0 <= k/\k < s.ls.length) {l:Lk} (hl:lOK l) (hw:∀ y ∈ l.2,y ∈ (s.lk k).2 \/ s.fitL cur y 5 k):GI (s.lset k l) cur:=by
 have hkn:k.toNat < s.ls.length:=by omega
 have hkk:((k.toNat:Nat):Int)=k:=by omega
 have hlk:∀ j:Nat,(s.lset k l).lk j=if j=k.toNat then l else s.lk j:=fun j=>Y7z hkn _ l j
 refine ⟨h.rp,h.gl,h.gor,h.cl,h.ch,h.cc,h.cw,by show (((s.ls.set (toN k) l).length:Nat):Int)=_; rw[List.length_set]; exact h.ll,fun y hy=>?_,fun j hj y hy=>?_,h.ol,h.ook,h.ow⟩
 ·rcases List.mem_or_eq_of_mem_set hy with q | q
  ·exact h.lok y q
  ·rw[q]; exact hl
 ·have hj:j < s.ls.length:=by have:j < (s.ls.set (toN k) l).length:=hj; simpa using this
  rw[hlk] at hy;split at hy
  ·rename_i e;rw[e,hkk];rcases hw y hy with q | q
   ·rw[<- hkk]; exact h.lw k.toNat hkn y (by rw[hkk]; exact q)
   ·exact q
  ·exact h.lw j hj y hy
theorem GI.oset {s:MS} {cur:Int} (h:GI s cur) {k:Int} (hk:0 <= k/\k < s.os.length) {o:On} (ho:oOK o) (hw:∀ y ∈ o.2.2,y ∈ (s.oc k).2.2 \/ s.fitL cur y 7 k):GI (s.oset k o) cur:=by
 have hkn:k.toNat < s.os.length:=by omega
 have hkk:((k.toNat:Nat):Int)=k:=by omega
 have hlk:∀ j:Nat,(s.oset k o).oc j=if j=k.toNat then o else s.oc j:=fun j=>Y7z hkn _ o j
 refine ⟨h.rp,h.gl,h.gor,h.cl,h.ch,h.cc,h.cw,h.ll,h.lok,h.lw,by show (((s.os.set (toN k) o).length:Nat):Int)=_; rw[List.length_set]; exact h.ol,fun y hy=>?_,fun j hj y hy=>?_⟩
 ·rcases List.mem_or_eq_of_mem_set hy with q | q
  ·exact h.ook y q
  ·rw[q]; exact ho
 ·have hj:j < s.os.length:=by have:j < (s.os.set (toN k) o).length:=hj; simpa using this
  rw[hlk] at hy;split at hy
  ·rename_i e;rw[e,hkk];rcases hw y hy with q | q
   ·rw[<- hkk]; exact h.ow k.toNat hkn y (by rw[hkk]; exact q)
   ·exact q
  ·exact h.ow j hj y hy
theorem Yf9 {s:MS} (h:GI s (-1)) {l:List W} (hl:wOK l) (hf:∀ y ∈ l,s.who (-1) y/\y.2.1=0) {g t:Int} (hs:(s.g g).2.2.1 ≠ 1):newW l (g,0,t):=by
 refine ⟨fun hm=>?_,?_⟩
 ·obtain ⟨y,hy,e⟩:=List.mem_map.1 hm
  have e1:y.1=g:=by have:(keyW y).1=(keyW (g,0,t)).1:=by rw[e]
                    exact this
  obtain ⟨⟨h1,_,h3⟩,_⟩:=hf y hy;rw[e1] at h3 h1;rcases h3 with h3 | h3
  ·exact hs h3
  ·omega
 ·have:=Ycx hl.2.2 (fun y hy=>by
   obtain ⟨⟨h1,h2,_⟩,h4⟩:=hf y hy;have:=h.gl.2;exact ⟨h1,by omega,by omega,by omega⟩)
  omega
theorem Yeu {l:List W} {w:W} (hl:wOK l) (hw:isW w) (h:newW l w):pushL l w=(l++[w],0):=by
 unfold pushL;rw[if_pos hl,if_pos hw,if_neg h.1,if_neg (Nat.ne_of_lt h.2)]
section
variable {s:MS} {g:Int}
theorem GI.lokk (h:GI s (-1)) {k:Int} (hk:0 <= k/\k < s.ls.length):lOK (s.lk k):=h.lok _ (Ybm (by omega) _)
theorem GI.ookk (h:GI s (-1)) {k:Int} (hk:0 <= k/\k < s.os.length):oOK (s.oc k):=h.ook _ (Ybm (by omega) _)
theorem GI.lw' (h:GI s (-1)) {k:Int} (hk:0 <= k/\k < s.ls.length):∀ y ∈ (s.lk k).2,s.fitL (-1) y 5 k:=by
 obtain ⟨n,rfl⟩:∃ n:Nat,k=n:=⟨k.toNat,by omega⟩
 exact h.lw n (by omega)
theorem GI.ow' (h:GI s (-1)) {k:Int} (hk:0 <= k/\k < s.os.length):∀ y ∈ (s.oc k).2.2,s.fitL (-1) y 7 k:=by
 obtain ⟨n,rfl⟩:∃ n:Nat,k=n:=⟨k.toNat,by omega⟩
 exact h.ow n (by omega)
theorem Rdy.la (r:Rdy s g) (h:GI s (-1)) (hop:(s.instr g).1=5 \/ (s.instr g).1=6):0 <= (s.instr g).2.1/\(s.instr g).2.1 < s.ls.length:=by
 have h1:=(r.inok h).2.1;rw[h.ll];rcases hop with e | e <;> (rw[e] at h1; exact h1)
theorem Rdy.oa (r:Rdy s g) (h:GI s (-1)) (hop:(s.instr g).1=7 \/ (s.instr g).1=8):0 <= (s.instr g).2.1/\(s.instr g).2.1 < s.os.length:=by
 have h1:=(r.inok h).2.1;rw[h.ol];rcases hop with e | e <;> (rw[e] at h1; exact h1)
theorem Yac (s:MS) (cs:List Ch) (a t:Int) {m:Nat} (hb:s.Bd m) (hg:0 <= g/\g < s.gs.length) (hok:gOK s.p (s.g g)) (hl:(blk s.p (s.g g).1).length <= 24) :
  Z2s (g,a,t,s.t cs)=some ((s.locked g a t).t cs):=by
 unfold Z2s;simp only;rw[tel_x s cs 11 a 0 t hb];simp only[bS9];rw[on_x (g:=g) (s.tell (g,11,a,0,t)) cs hg hok hl];rfl
theorem wlen {l:List W} (h:wOK l):l.length < 4611686018427387904:=by have:=h.2.1; omega
theorem lock_x {cs:List Ch} (hr:RelCs cs s.cs) (h:GI s (-1)) (r:Rdy s g) (hb:s.Bd 4) (c:Int) (hop:(s.instr g).1=5) :
  GI (s.lock g (s.instr g).2.1) (-1)/\Z2q ((g,c),s.instr g,s.t cs)=some ((s.lock g (s.instr g).2.1).t cs):=by
 have ha:=r.la h (.inl hop);have hlo:=h.lokk ha;have hlw:=h.lw' ha;have hw:isW (g,0,s.ev):=⟨r.hg.1,by show (0:Int) <= 0; omega,hb.2.1⟩
 have hnw:newW (s.lk (s.instr g).2.1).2 (g,0,s.ev):=Yf9 h hlo.1 (fun y hy=>⟨(hlw y hy).1,(hlw y hy).2.1⟩) (by have:=r.st; omega);have hpc:=r.pc h;have htk:=Yjo (s.lk (s.instr g).2.1) (g,0,s.ev) (wlen hlo.1);rw[if_pos ⟨hlo,hw⟩,Yeu hlo.1 hw hnw] at htk;generalize hA:(s.instr g).2.1=A at *;have h1:=h.tell (g,10,A,0,-1);constructor
 ·unfold MS.lock;by_cases c1:(s.lk A).1=false
  ·rw[if_pos c1];have h2:GI ((s.tell (g,10,A,0,-1)).lset A (true,[])) (-1):=h1.lset (l:=(true,[])) ha ⟨⟨by simp,by simp,by simp⟩,.inl rfl⟩ (by simp);exact (h2.tell (g,11,A,0,s.ev)).on ⟨r.hg,r.st⟩
  ·rw[if_neg c1]
   have h2:GI ((s.tell (g,10,A,0,-1)).lset A (true,(s.lk A).2++[(g,0,s.ev)])) g:=by
    refine (h1.weak g).lset (l:=(true,(s.lk A).2++[(g,0,s.ev)])) ha ⟨Ykb hlo.1 hw hnw,.inl rfl⟩ (fun y hy=>?_);rcases List.mem_append.1 hy with q | q
    ·exact .inl q
    ·rw[List.mem_singleton.1 q];exact .inr ⟨⟨r.hg.1,r.hg.2,.inr ⟨rfl,r.st⟩⟩,rfl,hop,hA⟩
   exact h2.wait r.hg r.st
 ·unfold Z2q;simp only[neg1];rw[tel_x s cs 10 _ 0 (-1) hb];simp only[bS9,lkz_eq];have ha':inb A (s.tell (g,10,A,0,-1)).ls.length=true:=inbL.2 ha;rw[hA,bif_t ha',show (s.tell (g,10,A,0,-1)).ls.getD A.toNat (false,[])=s.lk A from rfl,htk];simp only[bS9];rw[bif_t ha'];unfold MS.lock;by_cases c1:(s.lk A).1=false
  ·rw[if_pos c1,if_pos c1];simp only[Bool.not_true,cond_false];rw[Yac (g:=g) ((s.tell (g,10,A,0,-1)).lset A (true,[])) cs A s.ev (hb.tell (g,10,A,0,-1)) r.hg (h.gok r.hg) hpc.2.2];rfl
  ·rw[if_neg c1,if_neg c1];simp only[if_true,Bool.not_false,cond_true];rw[wai_x ((s.tell (g,10,A,0,-1)).lset A (true,(s.lk A).2++[(g,0,s.ev)])) cs r.hg];rfl
theorem GI.lnone (h:GI s (-1)) {x:W} {a:Int} (hx:s.fitL (-1) x 5 a) (ha:∀ k:Nat,k < s.ls.length->(k:Int)=a->∀ y ∈ (s.lk k).2,y.1 ≠ x.1) :
  (∀ k:Int,0 <= k/\k < s.cs.length->∀ b,∀ y ∈ (s.ch k).mine b,y.1 ≠ x.1)/\(∀ k:Nat,k < s.ls.length->∀ y ∈ (s.lk k).2,y.1 ≠ x.1)/\(∀ k:Nat,k < s.os.length->∀ y ∈ (s.oc k).2.2,y.1 ≠ x.1):=by
 refine ⟨fun k hk b y hy e=>?_,fun k hk y hy=>?_,fun k hk y hy e=>?_⟩
 ·have:=fit_op (h.cw' hk b y hy).2;rw[e] at this;exact this.1 hx.2.2.1
 ·by_cases e:(k:Int)=a
  ·exact ha k hk e y hy
  ·intro e2;have:=(h.lw k hk y hy).2.2.2;rw[e2,hx.2.2.2] at this;exact e this.symm
 ·have:=(h.ow k hk y hy).2.2.1;rw[e,hx.2.2.1] at this;omega
theorem on_g (s:MS) {g:Int} (h:0 <= g) {g':Int} (h0:0 <= g') (hne:g' ≠ g):(s.on g).g g'=s.g g':=gAt_ne h h0 (Ne.symm hne) _
theorem on_len (s:MS) (g:Int):(s.on g).gs.length=s.gs.length:=List.length_set
theorem Yk5 {cs:List Ch} (hr:RelCs cs s.cs) (h:GI s (-1)) (r:Rdy s g) (hb:s.Bd 4) (c:Int) (hop:(s.instr g).1=6) :
  GI (s.unlock g (s.instr g).2.1) (-1)/\Z3n ((g,c),s.instr g,s.t cs)=some ((s.unlock g (s.instr g).2.1).t cs):=by
 have ha:=r.la h (.inr hop);have hlo:=h.lokk ha;have hlw:=h.lw' ha;have hpc:=r.pc h;have hgv:=Y88 (s.lk (s.instr g).2.1) (wlen hlo.1);rw[if_pos hlo] at hgv;generalize hA:(s.instr g).2.1=A at *;by_cases c1:(s.lk A).1=false
 ·rw[if_pos c1] at hgv;constructor
  ·unfold MS.unlock; rw[if_pos c1]; exact h.st 3
  ·unfold Z3n;simp only[lkz_eq];rw[hA,bif_t (inbL.2 ha),show s.ls.getD A.toNat (false,[])=s.lk A from rfl,hgv];simp only[bS9];unfold MS.unlock;rw[if_pos c1]; rfl
 rw[if_neg c1] at hgv
 have hg0:GI (s.lset A (given (s.lk A).2).1) (-1)/\((given (s.lk A).2).2.2=true->∃ x l,(s.lk A).2=x :: l/\(given (s.lk A).2).1=(true,l)/\(given (s.lk A).2).2.1=x):=by
  cases hq:(s.lk A).2 with
  | nil =>
   refine ⟨?_,fun e=>by cases e⟩;exact h.lset (l:=(false,[])) ha ⟨⟨by simp,by simp,by simp⟩,.inr rfl⟩ (by simp)
  | cons x l =>
   have hlo1:=hlo.1;rw[hq] at hlo1;refine ⟨?_,fun _=>⟨x,l,rfl,rfl,rfl⟩⟩;refine h.lset (l:=(true,l)) ha ⟨⟨fun y hy=>hlo1.1 y (List.mem_cons_of_mem _ hy),by have:=hlo1.2.1; simp at this; show l.length <= 64; omega,?_⟩,.inl rfl⟩ (fun y hy=>.inl (by rw[hq]; exact List.mem_cons_of_mem _ hy));have:=hlo1.2.2;rw[List.map_cons,List.nodup_cons] at this;exact this.2
 have h1:=(hg0.1.tell (g,12,A,0,-1)).on (g:=g) ⟨r.hg,r.st⟩
 have hx:(given (s.lk A).2).2.2=true->∃ x l,(s.lk A).2=x :: l/\(given (s.lk A).2).1=(true,l)/\(given (s.lk A).2).2.1=x/\x.1 ≠ g/\(0 <= x.1/\x.1 < s.gs.length) /\
   (((s.lset A (given (s.lk A).2).1).tell (g,12,A,0,-1)).on g).g x.1=s.g x.1/\(s.g x.1).2.2.1=1:=by
  intro e;obtain ⟨x,l,e1,e2,e3⟩:=hg0.2 e;have hf:=hlw x (by rw[e1]; exact List.mem_cons_self ..);have hst:(s.g x.1).2.2.1=1:=hf.1.2.2.resolve_right (fun q=>by have:=hf.1.1; omega);have hne:x.1 ≠ g:=fun q=>by rw[q] at hst; have:=r.st; omega
  exact ⟨x,l,e1,e2,e3,hne,⟨hf.1.1,hf.1.2.1⟩,on_g _ r.hg.1 hf.1.1 hne,hst⟩
 constructor
 ·unfold MS.unlock;rw[if_neg c1];by_cases c2:(given (s.lk A).2).2.2=true
  ·rw[if_pos c2];obtain ⟨x,l,e1,e2,e3,hne,hxg,hgx,hst⟩:=hx c2;have hf:=hlw x (by rw[e1]; exact List.mem_cons_self ..);rw[e3]
   have hf2:(((s.lset A (given (s.lk A).2).1).tell (g,12,A,0,-1)).on g).fitL (-1) x 5 A:=by
    refine ⟨⟨hxg.1,by rw[on_len]; exact hxg.2,.inl (by rw[hgx]; exact hst)⟩,hf.2.1,?_⟩;unfold MS.instr;rw[hgx];exact hf.2.2
   refine (h1.tell (x.1,11,A,0,x.2.2)).on' (g:=x.1) (by show 0 <= x.1/\x.1 < ((((s.lset A (given (s.lk A).2).1).tell (g,12,A,0,-1)).on g).gs.length:Int); rw[on_len]; exact hxg) ?_ ?_
   ·show ((((s.lset A (given (s.lk A).2).1).tell (g,12,A,0,-1)).on g).g x.1).2.2.1 ≠ 2;rw[hgx]; omega
   ·refine h1.lnone hf2 (fun k hk e y hy=>?_);have hkn:k=A.toNat:=by omega
    have hlen:A.toNat < s.ls.length:=by omega
    have:(((s.lset A (given (s.lk A).2).1).tell (g,12,A,0,-1)).on g).lk k=(true,l):=by
     show (s.ls.set (toN A) (given (s.lk A).2).1).getD k (false,[])=_;rw[e2,show toN A=A.toNat from rfl,Y7z hlen,if_pos hkn]
    rw[this] at hy;intro q;have hnd:=hlo.1.2.2;rw[e1,List.map_cons,List.nodup_cons] at hnd;have hy2:=hlw y (by rw[e1]; exact List.mem_cons_of_mem _ hy);exact hnd.1 (List.mem_map.2 ⟨y,hy,by unfold keyW; rw[q,hy2.2.1,hf.2.1]⟩)
  ·rw[if_neg c2]; exact h1
 ·unfold Z3n;simp only[lkz_eq,neg1];rw[hA,bif_t (inbL.2 ha),show s.ls.getD A.toNat (false,[])=s.lk A from rfl,hgv];simp only[bS9];rw[bif_f (by rfl),bif_t (inbL.2 ha),tel_x (s.lset A (given (s.lk A).2).1) cs 12 A 0 (-1) hb];simp only[bS9];rw[on_x (g:=g) ((s.lset A (given (s.lk A).2).1).tell (g,12,A,0,-1)) cs r.hg (h.gok r.hg) hpc.2.2];simp only[bS9];unfold MS.unlock;rw[if_neg c1];by_cases c2:(given (s.lk A).2).2.2=true
  ·obtain ⟨x,l,e1,e2,e3,hne,hxg,hgx,hst⟩:=hx c2;rw[if_pos c2,bif_t c2,e3];have hok:gOK s.p (s.g x.1):=h.gok hxg;rw[Yac (g:=x.1) (((s.lset A (given (s.lk A).2).1).tell (g,12,A,0,-1)).on g) cs A x.2.2 (hb.tell (g,12,A,0,-1)) (by rw[on_len]; exact hxg) (by rw[hgx]; exact hok) (by rw[hgx]; exact Y2n h.rp hok)];rfl
  ·rw[if_neg c2,bif_f (by simpa using c2)]
end
section
variable {s:MS} {g:Int}
theorem nop_x {cs:List Ch} (h:GI s (-1)) (r:Rdy s g) (c:Int) (i:In):GI (s.on g) (-1)/\Z2u ((g,c),i,s.t cs)=some ((s.on g).t cs):=by
 refine ⟨h.on r,?_⟩;unfold Z2u;simp only;rw[on_x (g:=g) s cs r.hg (h.gok r.hg) (r.pc h).2.2];rfl
theorem read_x {cs:List Ch} (h:GI s (-1)) (r:Rdy s g) (hb:s.Bd 4) (c:Int) (i:In):GI (s.access 16 g i.2.1) (-1)/\Z32 ((g,c),i,s.t cs)=some ((s.access 16 g i.2.1).t cs):=by
 refine ⟨(h.tell (g,16,i.2.1,0,-1)).on ⟨r.hg,r.st⟩,?_⟩;unfold Z32;simp only[neg1];rw[tel_x s cs 16 i.2.1 0 (-1) hb];simp only[bS9];rw[on_x (g:=g) (s.tell (g,16,i.2.1,0,-1)) cs r.hg (h.gok r.hg) (r.pc h).2.2];rfl
theorem Ykp {cs:List Ch} (h:GI s (-1)) (r:Rdy s g) (hb:s.Bd 4) (c:Int) (i:In):GI (s.access 17 g i.2.1) (-1)/\Z3r ((g,c),i,s.t cs)=some ((s.access 17 g i.2.1).t cs):=by
 refine ⟨(h.tell (g,17,i.2.1,0,-1)).on ⟨r.hg,r.st⟩,?_⟩;unfold Z3r;simp only[neg1];rw[tel_x s cs 17 i.2.1 0 (-1) hb];simp only[bS9];rw[on_x (g:=g) (s.tell (g,17,i.2.1,0,-1)) cs r.hg (h.gok r.hg) (r.pc h).2.2];rfl
theorem jump_x {cs:List Ch} (h:GI s (-1)) (r:Rdy s g) (c:Int) (hop:(s.instr g).1=12 \/ (s.instr g).1=13):GI (s.to g (s.instr g).2.1) (-1)/\Z2o ((g,c),s.instr g,s.t cs)=some ((s.to g (s.instr g).2.1).t cs):=by
 have h1:=(r.inok h).2.1
 have h2:0 <= (s.instr g).2.1/\(s.instr g).2.1 <= (blk s.p (s.g g).1).length:=by
  rcases hop with e | e <;> (rw[e] at h1; have h3:(s.instr g).2.1 < ((blk s.p (s.g g).1).length:Int)+1:=h1.2; omega)
 refine ⟨h.to r.hg h2 (h.none (by have:=r.st; omega)),?_⟩;unfold Z2o;simp only;rw[to_x (g:=g) s cs _ r.hg (h.gok r.hg)];rfl
theorem Ydn {cs:List Ch} (h:GI s (-1)) (r:Rdy s g) (c:Int) (hop:(s.instr g).1=13):GI (s.orElse g (s.instr g).2.1) (-1)/\Z2y ((g,c),s.instr g,s.t cs)=some ((s.orElse g (s.instr g).2.1).t cs):=by
 have hj:=jump_x (cs:=cs) h r c (.inr hop);unfold Z2y MS.orElse;simp only[gAt_eq];rw[bif_t (inbL.2 r.hg)];by_cases c1:(s.g g).2.2.2=true
 ·rw[if_pos c1,bif_t (show (gAt s.gs g).2.2.2=true from c1),hj.2];exact ⟨hj.1,rfl⟩
 ·rw[if_neg c1,bif_f (show (gAt s.gs g).2.2.2=false from Bool.eq_false_iff.2 c1),on_x (g:=g) s cs r.hg (h.gok r.hg) (r.pc h).2.2];exact ⟨h.on r,rfl⟩
theorem GI.add (h:GI s (-1)) {x:Gor} (hx:gOK s.p x) (hl:s.gs.length < 8):GI (s.add x) (-1):=by
 have hg:∀ n:Int,0 <= n->n < s.gs.length->(s.add x).g n=s.g n:=by
  intro n h0 h1;show (s.gs++[x]).getD n.toNat zGor=s.gs.getD n.toNat zGor;have:n.toNat < s.gs.length:=by omega
  simp[List.getD,List.getElem?_append_left this]
 have hlen:(s.add x).gs.length=s.gs.length+1:=by show (s.gs++[x]).length=_; simp
 have w:∀ y:W,s.who (-1) y->(s.add x).who (-1) y/\(s.add x).instr y.1=s.instr y.1:=by
  rintro y ⟨a,b,c⟩;have e:=hg y.1 a b;refine ⟨⟨a,by rw[hlen]; omega,by rw[e]; exact c⟩,?_⟩;unfold MS.instr; rw[e]
 refine ⟨h.rp,by rw[hlen]; have:=h.gl; omega,fun y hy=>?_,h.cl,h.ch,h.cc,fun k hk=>⟨fun y hy=>?_,fun y hy=>?_⟩,h.ll,h.lok,fun k hk y hy=>?_,h.ol,h.ook,fun k hk y hy=>?_⟩
 ·rcases List.mem_append.1 (show y ∈ s.gs++[x] from hy) with q | q
  ·exact h.gor y q
  ·rw[List.mem_singleton.1 q]; exact hx
 ·obtain ⟨q1,q2⟩:=(h.cw k hk).1 y hy;exact ⟨(w y q1).1,by rw[(w y q1).2]; exact q2⟩
 ·obtain ⟨q1,q2⟩:=(h.cw k hk).2 y hy;exact ⟨(w y q1).1,by rw[(w y q1).2]; exact q2⟩
 ·obtain ⟨q1,q2⟩:=h.lw k hk y hy;exact ⟨(w y q1).1,by rw[(w y q1).2]; exact q2⟩
 ·obtain ⟨q1,q2⟩:=h.ow k hk y hy;exact ⟨(w y q1).1,by rw[(w y q1).2]; exact q2⟩
theorem Y2b {cs:List Ch} (h:GI s (-1)) (r:Rdy s g) (hb:s.Bd 4) (c:Int) (hop:(s.instr g).1=9):GI (s.beginO g (s.instr g).2.1) (-1)/\Z2a ((g,c),s.instr g,s.t cs)=some ((s.beginO g (s.instr g).2.1).t cs):=by
 have h1:=(r.inok h).2.1;rw[hop] at h1;have h1:0 <= (s.instr g).2.1/\(s.instr g).2.1 < (s.p.2.2.2.2.2.length:Int):=h1;unfold MS.beginO Z2a;simp only[neg1];generalize (s.instr g).2.1=A at *;by_cases c8:s.gs.length=8
 ·rw[if_pos c8,bif_t (by rw[c8]; rfl)];exact ⟨h.st 4,rfl⟩
 have hl:=h.gl
 have hx:gOK s.p (gTo s.p (A,0,0,false) 0):=by
  refine ⟨h1.1,h1.2,?_,?_,?_,?_,?_⟩
  ·show (0:Int) <= 0; omega
  ·show (0:Int) <= ((blk s.p A).length:Int); omega
  ·show (0:Int) <= if (0:Int)=(blk s.p A).length then 2 else 0
   split <;> omega
  ·show (if (0:Int)=(blk s.p A).length then (2:Int) else 0) <= 2;split <;> omega
  ·show (0:Int)=(blk s.p A).length ↔ (if (0:Int)=(blk s.p A).length then (2:Int) else 0)=2;split
   ·rename_i e; exact ⟨fun _=>rfl,fun _=>e⟩
   ·rename_i e; exact ⟨fun q=>absurd q e,fun q=>by omega⟩
 let s2:MS:=(s.tell (g,1,s.gs.length,0,-1)).tell (s.gs.length,0,0,0,s.ev)
 have h2:GI s2 (-1):=(h.tell _).tell _;have hgn:0 <= (s.gs.length:Int)/\(s.gs.length:Int) < ((s.gs++[(A,0,0,false)]).length:Int):=by simp; omega
 have hat:gAt (s.gs++[(A,0,0,false)]) (s.gs.length:Int)=(A,0,0,false):=by
  unfold gAt;simp[List.getD]
 have hset:(s.gs++[(A,0,0,false)]).set (toN (s.gs.length:Int)) (gTo s.p (A,0,0,false) 0)=s.gs++[gTo s.p (A,0,0,false) 0]:=by
  rw[Yk0,List.set_append_right _ _ (Nat.le_refl _),Nat.sub_self]; rfl
 have h3:GI (s2.add (gTo s.p (A,0,0,false) 0)) (-1):=h2.add hx (by show s.gs.length < 8; omega)
 have hg3:(s2.add (gTo s.p (A,0,0,false) 0)).g g=s.g g:=by
  show (s.gs++[gTo s.p (A,0,0,false) 0]).getD g.toNat zGor=s.gs.getD g.toNat zGor;have:g.toNat < s.gs.length:=by have:=r.hg; omega
  simp[List.getD,List.getElem?_append_left this]
 have hlen3:(s2.add (gTo s.p (A,0,0,false) 0)).gs.length=s.gs.length+1:=by show (s.gs++[_]).length=_; simp
 have r3:Rdy (s2.add (gTo s.p (A,0,0,false) 0)) g:=⟨⟨r.hg.1,by rw[hlen3]; have:=r.hg.2; omega⟩,by rw[hg3]; exact r.st⟩
 rw[if_neg c8,bif_f (by simp; omega)];refine ⟨h3.on r3,?_⟩;rw[tel_x s cs 1 s.gs.length 0 (-1) hb];simp only[bS9];rw[tel_x (s.tell (g,1,s.gs.length,0,-1)) cs 0 0 0 s.ev (hb.tell _)];simp only[bS9];rw[bif_t (Y74.2 (by show s.gs.length+1 <= _; omega))];have hto:=goTo_x s2.p s2.ev s2.st (s.gs++[(A,0,0,false)]) cs s2.ls s2.os s2.L (s.gs.length:Int) 0 hgn (by rw[hat]; exact h1.1) (by rw[hat]; exact h1.2);rw[hat,hset] at hto;have hto:Z2k ((s.gs.length:Int),0,s2.p,(s2.ev,s2.st),s2.gs++(A,0,0,false) :: [],cs,s2.ls,s2.os,s2.L)=some ((s2.add (gTo s.p (A,0,0,false) 0)).t cs):=hto;rw[hto];simp only[bS9];have hok3:=h3.gok r3.hg;rw[on_x (g:=g) (s2.add (gTo s.p (A,0,0,false) 0)) cs r3.hg hok3 (Y2n h3.rp hok3)];rfl
theorem GI.onone (h:GI s (-1)) {x:W} {a:Int} (hx:s.fitL (-1) x 7 a) (ha:∀ k:Nat,k < s.os.length->(k:Int)=a->∀ y ∈ (s.oc k).2.2,y.1 ≠ x.1) :
  (∀ k:Int,0 <= k/\k < s.cs.length->∀ b,∀ y ∈ (s.ch k).mine b,y.1 ≠ x.1)/\(∀ k:Nat,k < s.ls.length->∀ y ∈ (s.lk k).2,y.1 ≠ x.1)/\(∀ k:Nat,k < s.os.length->∀ y ∈ (s.oc k).2.2,y.1 ≠ x.1):=by
 refine ⟨fun k hk b y hy e=>?_,fun k hk y hy e=>?_,fun k hk y hy=>?_⟩
 ·have:=fit_op (h.cw' hk b y hy).2;rw[e] at this;exact this.2.1 hx.2.2.1
 ·have:=(h.lw k hk y hy).2.2.1;rw[e,hx.2.2.1] at this;omega
 ·by_cases e:(k:Int)=a
  ·exact ha k hk e y hy
  ·intro e2;have:=(h.ow k hk y hy).2.2.2;rw[e2,hx.2.2.2] at this;exact e this.symm
theorem skip_x (s:MS) (cs:List Ch) (t:Int) {m:Nat} (hb:s.Bd m) (hg:0 <= g/\g < s.gs.length) (hok:gOK s.p (s.g g)) (hs:(s.g g).2.2.1 ≠ 2):Z3j (g,t,s.t cs)=some ((s.skip g t).t cs):=by
 unfold Z3j;simp only;rw[ins_x (g:=g) s cs hg hok hs];simp only[bS9];rw[tel_x s cs 15 _ 0 t hb];simp only[bS9];rw[to_x (g:=g) (s.tell (g,15,(s.instr g).2.1,0,t)) cs _ hg hok];rfl
theorem once_b (h:GI s (-1)) (hg:0 <= g/\g < s.gs.length) (hs:(s.g g).2.2.1 ≠ 2) (hop:(s.instr g).1=7):0 <= (s.instr g).2.2/\(s.instr g).2.2 <= (blk s.p (s.g g).1).length:=by
 have:=(Y8p h.rp (h.gok hg) hs).2.2;have e:(inAt s.p (s.g g)).1=7:=hop;rw[e,if_pos rfl] at this;exact this
theorem GI.skip (h:GI s (-1)) (hg:0 <= g/\g < s.gs.length) (hs:(s.g g).2.2.1 ≠ 2) (hop:(s.instr g).1=7) (t:Int)
  (hn:(∀ k:Int,0 <= k/\k < s.cs.length->∀ b,∀ y ∈ (s.ch k).mine b,y.1 ≠ g)/\(∀ k:Nat,k < s.ls.length->∀ y ∈ (s.lk k).2,y.1 ≠ g)/\(∀ k:Nat,k < s.os.length->∀ y ∈ (s.oc k).2.2,y.1 ≠ g)):GI (s.skip g t) (-1) :=
 (h.tell _).to (g:=g) hg (once_b h hg hs hop) hn
theorem do_x {cs:List Ch} (h:GI s (-1)) (r:Rdy s g) (hb:s.Bd 4) (c:Int) (hop:(s.instr g).1=7):GI (s.doO g (s.instr g).2.1) (-1)/\Z2c ((g,c),s.instr g,s.t cs)=some ((s.doO g (s.instr g).2.1).t cs):=by
 have ha:=r.oa h (.inl hop);have hoo:=h.ookk ha;have how:=h.ow' ha;have hpc:=r.pc h;have hw:isW (g,0,s.ev):=⟨r.hg.1,by show (0:Int) <= 0; omega,hb.2.1⟩
 have hnw:newW (s.oc (s.instr g).2.1).2.2 (g,0,s.ev):=Yf9 h hoo.2.1 (fun y hy=>⟨(how y hy).1,(how y hy).2.1⟩) (by have:=r.st; omega);have hdo:=do_eq (s.oc (s.instr g).2.1) (g,0,s.ev) (wlen hoo.2.1);rw[if_pos ⟨hoo,hw⟩] at hdo;have hA:∃ A,A=(s.instr g).2.1:=⟨_,rfl⟩
 obtain ⟨A,hA⟩:=hA;rw[<- hA] at ha hoo how hnw hdo ⊢;have h1:=h.tell (g,13,A,0,-1);have ha':inb A (s.tell (g,13,A,0,-1)).os.length=true:=inbL.2 ha
 -- what comes of asking
 have cases4:(Go.Proofs.YtifbgkikkiallaaGreat.VX.VxZ_Z.done (s.oc A) (g,0,s.ev)).2.2 ≠ 0 \/ ((Go.Proofs.YtifbgkikkiallaaGreat.VX.VxZ_Z.done (s.oc A) (g,0,s.ev)).2.2=0/\GI ((s.tell (g,13,A,0,-1)).oset A (Go.Proofs.YtifbgkikkiallaaGreat.VX.VxZ_Z.done (s.oc A) (g,0,s.ev)).1) g /\
   ((Go.Proofs.YtifbgkikkiallaaGreat.VX.VxZ_Z.done (s.oc A) (g,0,s.ev)).2.1 ≠ 1->GI ((s.tell (g,13,A,0,-1)).oset A (Go.Proofs.YtifbgkikkiallaaGreat.VX.VxZ_Z.done (s.oc A) (g,0,s.ev)).1) (-1))):=by
  unfold Go.Proofs.YtifbgkikkiallaaGreat.VX.VxZ_Z.done;by_cases c0:(s.oc A).1=0
  ·right;rw[if_pos c0];have:GI ((s.tell (g,13,A,0,-1)).oset A (1,g,[])) (-1):=h1.oset ha ⟨r.hg.1,⟨by simp,by simp,by simp⟩,.inl ⟨rfl,by simp⟩⟩ (by simp);exact ⟨rfl,this.weak g,fun _=>this⟩
  rw[if_neg c0];by_cases c2:(s.oc A).1=2
  ·right;rw[if_pos c2];have:GI ((s.tell (g,13,A,0,-1)).oset A (s.oc A)) (-1):=h1.oset ha hoo (fun y hy=>.inl hy);exact ⟨rfl,this.weak g,fun _=>this⟩
  rw[if_neg c2];by_cases c3:(s.oc A).2.1=g
  ·left;rw[if_pos c3];show (6:Int) ≠ 0;omega
  rw[if_neg c3,Yeu hoo.2.1 hw hnw];right;refine ⟨rfl,?_,fun q=>absurd rfl q⟩;refine (h1.weak g).oset ha ?_ (fun y hy=>?_)
  ·refine ⟨hoo.1,Ykb hoo.2.1 hw hnw,?_⟩;rcases hoo.2.2 with ⟨q1,q2⟩ | ⟨q1,_⟩
   ·refine .inl ⟨q1,fun y hy=>?_⟩;rcases List.mem_append.1 hy with q | q
    ·exact q2 y q
    ·rw[List.mem_singleton.1 q]; exact fun e=>c3 e.symm
   ·rcases q1 with q1 | q1
    ·exact absurd q1 c0
    ·exact absurd q1 c2
  ·rcases List.mem_append.1 hy with q | q
   ·exact .inl q
   ·rw[List.mem_singleton.1 q];exact .inr ⟨⟨r.hg.1,r.hg.2,.inr ⟨rfl,r.st⟩⟩,rfl,hop,hA.symm⟩
 unfold MS.doO Z2c;simp only[neg1];rw[<- hA,tel_x s cs 13 A 0 (-1) hb];simp only[bS9,ocz_eq];rw[bif_t ha',show (s.tell (g,13,A,0,-1)).os.getD A.toNat zeroO=s.oc A from rfl,hdo];simp only[bS9];generalize hd:Go.Proofs.YtifbgkikkiallaaGreat.VX.VxZ_Z.done (s.oc A) (g,0,s.ev)=d at *;rcases cases4 with c | ⟨c,q1,q2⟩
 ·rw[if_pos c,bif_t (by simpa using c),wai_x (g:=g) (s.tell (g,13,A,0,-1)) cs r.hg];exact ⟨(h1.weak g).wait r.hg r.st,rfl⟩
 rw[if_neg (fun q=>q c),bif_f (by simpa using c),bif_t ha'];by_cases d0:d.2.1=0
 ·rw[if_pos d0,bif_t (by simpa using d0),on_x (g:=g) ((s.tell (g,13,A,0,-1)).oset A d.1) cs r.hg (h.gok r.hg) hpc.2.2];exact ⟨(q2 (by omega)).on ⟨r.hg,r.st⟩,rfl⟩
 rw[if_neg d0,bif_f (by simpa using d0)];by_cases d1:d.2.1=1
 ·rw[if_pos d1,bif_t (by simpa using d1),wai_x (g:=g) ((s.tell (g,13,A,0,-1)).oset A d.1) cs r.hg];exact ⟨q1.wait r.hg r.st,rfl⟩
 ·have hst2:(s.g g).2.2.1 ≠ 2:=by have:=r.st; omega
  rw[if_neg d1,bif_f (by simpa using d1),skip_x (g:=g) ((s.tell (g,13,A,0,-1)).oset A d.1) cs s.ev (hb.tell (g,13,A,0,-1)) r.hg (h.gok r.hg) hst2];refine ⟨(q2 d1).skip (g:=g) r.hg hst2 hop s.ev ((q2 d1).none (by show (s.g g).2.2.1 ≠ 1; have:=r.st; omega)),rfl⟩
theorem skip_g (s:MS) (t:Int) (hg:0 <= g) {g':Int} (h0:0 <= g') (hne:g' ≠ g):(s.skip g t).g g'=s.g g':=gAt_ne hg h0 (Ne.symm hne) _
theorem Yi7 (s:MS) (t:Int):(s.skip g t).gs.length=s.gs.length:=List.length_set
theorem Yi9 {cs:List Ch} (h:GI s (-1)) (a:Int) (l:List W) (hl:l.length <= 64) (hb:s.Bd 80) (hw:∀ x ∈ l,s.fitL (-1) x 7 a) (hd:(l.map keyW).Nodup) (ha:∀ k:Nat,k < s.os.length->(k:Int)=a->(s.oc k).2.2=[]) :
  GI (s.skips l) (-1)/\(s.skips l).Bd 0/\loop Za1 (l,(l.length:Int),0,s.t cs)=some ((s.skips l).t cs):=by
 have key:=Yav (f:=Za1) l.length (fun k s=>(l,(l.length:Int),(k:Int),s.t cs)) (fun k s=>s.skip (l.getD k zeroW).1 (l.getD k zeroW).2.2)
  (fun k s=>GI s (-1)/\s.Bd (80 - k)/\(∀ j,k <= j->j < l.length->s.fitL (-1) (l.getD j zeroW) 7 a)/\(∀ k:Nat,k < s.os.length->(k:Int)=a->(s.oc k).2.2=[])) (fun s=>s.t cs) (by
   rintro k s hk ⟨q1,q2,q3,q4⟩;have hx:=q3 k (Nat.le_refl _) hk;have hget:l.getD k zeroW=l[k]:=Y7y hk _;have hst:(s.g (l.getD k zeroW).1).2.2.1=1:=hx.1.2.2.resolve_right (fun q=>by have:=hx.1.1; omega);have hgr:0 <= (l.getD k zeroW).1/\(l.getD k zeroW).1 < s.gs.length:=⟨hx.1.1,hx.1.2.1⟩
   have hst2:(s.g (l.getD k zeroW).1).2.2.1 ≠ 2:=by omega
   refine ⟨?_,q1.skip (g:=(l.getD k zeroW).1) hgr hst2 hx.2.2.1 _ (q1.onone hx (fun j hj e y hy=>by rw[q4 j hj e] at hy; cases hy)),(show s.Bd ((80 - (k+1))+1) from q2.le (by omega)).tell _,?_,q4⟩
   ·unfold Za1;simp only;have hge:getAt ((0:Int),((0:Int),(0:Int))) l (toN (k:Int))=l.getD k zeroW:=by rw[Y7v]; rfl
    rw[bif_t (dT9 (by omega)),bif_t (Y8t hk)];simp only[hge];rw[skip_x (g:=(l.getD k zeroW).1) s cs _ q2 hgr (q1.gok hgr) hst2,wrapI (by omega) (by omega)];rfl
   ·intro j hj1 hj2;have hy:=q3 j (by omega) hj2
    have hne:(l.getD j zeroW).1 ≠ (l.getD k zeroW).1:=by
     intro e;have e2:keyW (l.getD j zeroW)=keyW (l.getD k zeroW):=by unfold keyW; rw[e,hy.2.1,hx.2.1]
     rw[Y7y hj2,Y7y hk] at e2;have h1:(l.map keyW)[j]'(by simpa using hj2)=(l.map keyW)[k]'(by simpa using hk):=by simpa using e2
     have:=(List.getElem_inj hd).1 h1;omega
    have eg:=skip_g (g:=(l.getD k zeroW).1) s (l.getD k zeroW).2.2 hgr.1 hy.1.1 hne;refine ⟨⟨hy.1.1,by rw[Yi7]; exact hy.1.2.1,by rw[eg]; exact hy.1.2.2⟩,hy.2.1,?_⟩;unfold MS.instr;rw[eg];exact hy.2.2) (by
   rintro s -
   unfold Za1;simp only;rw[bif_f (dF9 (by omega))]) s ⟨h,hb,fun j _ hj=>hw _ (by rw[Y7y hj]; exact gm9 hj),ha⟩
 exact ⟨key.2.1,key.2.2.1.le (by omega),key.1⟩
theorem end_x {cs:List Ch} (h:GI s (-1)) (r:Rdy s g) (hb:s.Bd 100) (c:Int) (hop:(s.instr g).1=8):GI (s.endO g (s.instr g).2.1) (-1)/\Z2g ((g,c),s.instr g,s.t cs)=some ((s.endO g (s.instr g).2.1).t cs):=by
 have ha:=r.oa h (.inr hop);have hoo:=h.ookk ha;have how:=h.ow' ha;have hpc:=r.pc h;have hen:=end_eq (s.oc (s.instr g).2.1) g (wlen hoo.2.1);rw[if_pos ⟨hoo,r.hg.1⟩] at hen;obtain ⟨A,hA⟩:∃ A,A=(s.instr g).2.1:=⟨_,rfl⟩
 rw[<- hA] at ha hoo how hen ⊢;unfold MS.endO Z2g;simp only[neg1,ocz_eq];rw[<- hA,bif_t (inbL.2 ha),show s.os.getD A.toNat zeroO=s.oc A from rfl,hen];simp only[bS9];unfold ended;by_cases c1:(s.oc A).1=1/\(s.oc A).2.1=g
 ·rw[if_pos c1,if_pos c1];simp only;rw[bif_f (by rfl),bif_t (inbL.2 ha)];have h1:GI (s.oset A (2,0,[])) (-1):=h.oset ha ⟨by show (0:Int) <= 0; omega,⟨by simp,by simp,by simp⟩,.inr ⟨.inr rfl,rfl,rfl⟩⟩ (by simp);have h2:GI (((s.oset A (2,0,[])).tell (g,14,A,0,-1)).on g) (-1):=(h1.tell _).on ⟨r.hg,r.st⟩
  have hgx:∀ x ∈ (s.oc A).2.2,(((s.oset A (2,0,[])).tell (g,14,A,0,-1)).on g).fitL (-1) x 7 A:=by
   intro x hx;have hf:=how x hx;have hst:(s.g x.1).2.2.1=1:=hf.1.2.2.resolve_right (fun q=>by have:=hf.1.1; omega);have hne:x.1 ≠ g:=fun q=>by rw[q] at hst; have:=r.st; omega
   have eg:(((s.oset A (2,0,[])).tell (g,14,A,0,-1)).on g).g x.1=s.g x.1:=on_g _ r.hg.1 hf.1.1 hne;refine ⟨⟨hf.1.1,by rw[on_len]; exact hf.1.2.1,by rw[eg]; exact .inl hst⟩,hf.2.1,?_⟩;unfold MS.instr;rw[eg];exact hf.2.2
  have hAn:A.toNat < s.os.length:=by omega
  have key:=Yi9 (cs:=cs) h2 A (s.oc A).2.2 hoo.2.1.2.1 ((hb.le (show 81 <= 100 by omega)).tell (g,14,A,0,-1)) hgx hoo.2.1.2.2 (fun k hk e=>by
   show ((s.os.set (toN A) (2,0,[])).getD k zeroO).2.2=[]
   rw[show toN A=A.toNat from rfl,Y7z hAn,if_pos (by omega)])
  refine ⟨key.1,?_⟩;rw[tel_x (s.oset A (2,0,[])) cs 14 A 0 (-1) hb];simp only[bS9];rw[on_x (g:=g) ((s.oset A (2,0,[])).tell (g,14,A,0,-1)) cs r.hg (h.gok r.hg) hpc.2.2];simp only[bS9];rw[key.2.2];rfl
 ·rw[if_neg c1,if_neg c1,bif_t (by rfl)];exact ⟨h.st 3,rfl⟩
end
theorem Yk8 {S T:Type} (π:S->T) (nx:Nat->S->S) (nx':Nat->T->T) (h:∀ k q,π (nx k q)=nx' k (π q)):∀ m k q,π (upto nx k m q)=upto nx' k m (π q)
 | 0,k,q=>rfl
 | m+1,k,q=>by
  show π (upto nx (k+1) m (nx k q))=upto nx' (k+1) m (nx' k (π q));rw[Yk8 π nx nx' h m (k+1),h]
def MS.offers (s:MS) (g t:Int) (l:List Cs):MS:=upto (fun n s=>(s.offer (g,(n:Int),t) (l.getD n (false,0)).2 (l.getD n (false,0)).1).2) 0 l.length s
def MS.selO (s:MS) (g k a:Int):MS :=
 if k ≠ -1 then (s.tell (g,8,a,0,-1)).pass (g,k,s.ev) (caseAt s.p a k).2 (caseAt s.p a k).1
 else if (selAt s.p a).2=true then ((s.tell (g,8,a,0,-1)).tell (g,9,a,0,s.ev)).on g
 else ((s.tell (g,8,a,0,-1)).offers g s.ev (selAt s.p a).1).wait g
def MS.shutS (k:Int) (l:List W) (n:Nat) (r:MS × List Int):MS × List Int :=
 if (l.getD n zeroW).1 ∈ r.2 then r else (r.1.done (l.getD n zeroW) k 0 true,(l.getD n zeroW).1 :: r.2)
def MS.shutL (s:MS) (k:Int) (l:List W):MS:=(upto (MS.shutS k l) 0 l.length (s,[])).1
def MS.shutO (s:MS) (g a:Int):MS :=
 if (s.ch a).cap < 0 \/ (s.ch a).closed=true \/ (s.ch a).sends ≠ [] then { s with st:=3 }
 else (((s.csset a (s.ch a).close).tell (g,7,a,0,-1)).on g).shutL a (s.ch a).recvs
section
variable {s:MS} {g:Int}
theorem caz_eq (l:List Cs) (k:Nat):getAt (false,(0:Int)) l (toN (k:Int))=l.getD k (false,0):=by rw[Y7v]; rfl
theorem Yde {a:AC} (ho:a.Ok) {b:Bool} {x:W} (hr:a.ready b x.1=false) (hw:isW x) (hn:newW (a.mine b) x) (hs:a.sent < 1048576) :
  (a.off b x).1.Ok/\(a.off b x).1.sent=a.sent/\(∀ c,(a.off b x).1.ready c x.1=a.ready c x.1)/\(a.off b x).2.1=0:=by
 unfold AC.ready at hr;unfold AC.off;by_cases c1:a.cap < 0
 ·cases b with
  | true =>
   have e:a.send x=(a,(0,0,nobody,0)):=by unfold AC.send; rw[if_pos c1]
   simp only[if_true,e]; exact ⟨ho,trivial,fun _=>trivial,trivial⟩
  | false =>
   have hsd:=ho.sides;unfold AC.sides at hsd;rw[if_pos c1] at hsd
   have e:a.recv x=(a,(0,0,nobody,0)):=by
    unfold AC.recv;rw[hsd.2.2.1];simp only[List.find?_nil];rw[if_pos c1]
   simp only[Bool.false_eq_true,if_false,e]; exact ⟨ho,trivial,fun _=>trivial,trivial⟩
 rw[if_neg c1] at hr;by_cases c2:a.closed=true
 ·rw[if_pos c2] at hr; cases hr
 rw[if_neg c2] at hr
 have own:∀ (l:List W),(l++[x]).find? (notG x.1)=l.find? (notG x.1):=by
  intro l;rw[List.find?_append];have:[x].find? (notG x.1)=none:=by simp[notG]
  rw[this];cases l.find? (notG x.1) <;> rfl
 cases b with
 | true =>
  rw[if_pos rfl,Bool.or_eq_false_iff] at hr;have hfull:a.sent - a.got=max a.cap 0:=by simpa using hr.1
  have hnone:a.recvs.find? (notG x.1)=none:=by simpa using hr.2
  have e:a.send x=({ a with sends:=a.sends++[x] },(0,0,nobody,0)):=by
   unfold AC.send;rw[if_neg c1,if_neg c2,hnone];simp only;rw[if_pos hfull]
  have hok:=ho.send hw hn hs (fun _ q=>absurd hfull q);rw[e] at hok;simp only[if_true,e];refine ⟨hok,trivial,fun c=>?_,trivial⟩;unfold AC.ready;simp only[own]
 | false =>
  rw[if_neg (by simp),Bool.or_eq_false_iff] at hr;have hemp:¬ (a.sent - a.got > 0):=by simpa using hr.1
  have hnone:a.sends.find? (notG x.1)=none:=by simpa using hr.2
  have e:a.recv x=({ a with recvs:=a.recvs++[x] },(0,0,nobody,0)):=by
   unfold AC.recv;rw[hnone];simp only;rw[if_neg c1,if_neg hemp,if_neg c2]
  have hok:=ho.recv hw hn hs (fun _ q=>absurd q hemp);rw[e] at hok;simp only[Bool.false_eq_true,if_false,e];refine ⟨hok,trivial,fun c=>?_,trivial⟩;unfold AC.ready;simp only[own]
theorem Yhg (h:GI s (-1)) (r:Rdy s g) (hop:(s.instr g).1=4):0 <= (s.instr g).2.1/\(s.instr g).2.1 < s.p.2.2.2.2.1.length:=by
 have h1:=(r.inok h).2.1;rw[hop] at h1;exact h1
theorem Ydh {cs:List Ch} (hr:RelCs cs s.cs) (h:GI s (-1)) (r:Rdy s g) (t:Int) (ht:0 <= t) (hs:∀ a ∈ s.cs,a.sent < 1048576) (hop:(s.instr g).1=4) (A:Int) (hA:A=(s.instr g).2.1)
  (hn:∀ k,0 <= k->k < ((selAt s.p A).1.length:Int)->(s.ch (caseAt s.p A k).2).ready (caseAt s.p A k).1 g=false) (c:Int × Int) (hc:c.1=g) :
  GI (s.offers g t (selAt s.p A).1) g/\((s.offers g t (selAt s.p A).1).gs=s.gs) /\
  ∃ cs',RelCs cs' (s.offers g t (selAt s.p A).1).cs/\loop Za3 (t,(selAt s.p A).1,((selAt s.p A).1.length:Int),0,s.p,(s.ev,s.st),c,s.gs,cs,s.ls,s.os,s.L) =
   some ((s.offers g t (selAt s.p A).1).p,((s.offers g t (selAt s.p A).1).ev,(s.offers g t (selAt s.p A).1).st),c,(s.offers g t (selAt s.p A).1).gs,cs',(s.offers g t (selAt s.p A).1).ls,(s.offers g t (selAt s.p A).1).os,(s.offers g t (selAt s.p A).1).L):=by
 have hsb:=Yhg h r hop;rw[<- hA] at hsb;have hl4:=Yhi h.rp A;obtain ⟨l,hl⟩:∃ l,l=(selAt s.p A).1:=⟨_,rfl⟩
 rw[<- hl] at hn hl4 ⊢;have hcase:∀ n:Nat,l.getD n (false,0)=caseAt s.p A n:=fun n=>by unfold caseAt; rw[<- hl]; rfl
 have none0:=h.none (g:=g) (by have:=r.st; omega)
 let P:Nat->MS × List Ch->Prop:=fun n q=>RelCs q.2 q.1.cs/\GI q.1 g/\q.1.gs=s.gs/\q.1.p=s.p/\(∀ a ∈ q.1.cs,a.sent < 1048576)/\q.1.cs.length=s.cs.length /\
  (∀ (k:Int) b,0 <= k->k < s.cs.length->(q.1.ch k).ready b g=(s.ch k).ready b g)/\(∀ (k:Int) b,0 <= k->k < s.cs.length->∀ y ∈ (q.1.ch k).mine b,y.1=g->y.2.1 < n)
 -- one offer
 have one:∀ n q,n < l.length->P n q->∃ cs',Z2w ((g,(n:Int),t),(l.getD n (false,0)).2,(l.getD n (false,0)).1,q.1.t q.2)=some ((q.1.offer (g,(n:Int),t) (l.getD n (false,0)).2 (l.getD n (false,0)).1).1,(q.1.offer (g,(n:Int),t) (l.getD n (false,0)).2 (l.getD n (false,0)).1).2.t cs') /\
   P (n+1) ((q.1.offer (g,(n:Int),t) (l.getD n (false,0)).2 (l.getD n (false,0)).1).2,cs'):=by
  rintro n ⟨q,qc⟩ hnl ⟨p1,p2,p3,p4,p5,p6,p7,p8⟩;simp only at p1 p2 p3 p4 p5 p6 p7 p8;rw[hcase];have hk:=Y3c h.rp hsb (k:=(n:Int)) (by rw[<- hl]; omega);rw[<- h.cl] at hk;generalize hcs:caseAt s.p A n=cse at *;have hk':0 <= cse.2/\cse.2 < q.cs.length:=by rw[p6]; exact hk
  have hkn:cse.2.toNat < q.cs.length:=by omega
  have hw:isW (g,(n:Int),t):=⟨r.hg.1,by show (0:Int) <= (n:Int); omega,ht⟩
  have hready:(q.ch cse.2).ready cse.1 g=false:=by
   rw[p7 _ _ hk.1 hk.2];have:=hn n (by omega) (by omega);rw[hcs] at this; exact this
  have hnw:newW ((q.ch cse.2).mine cse.1) (g,(n:Int),t):=by
   refine ⟨fun hm=>?_,by have:=p2.mine_len hk' cse.1; omega⟩;obtain ⟨y,hy,e⟩:=List.mem_map.1 hm;have e1:(keyW y).1=g:=by rw[e]; rfl
   have e2:(keyW y).2=(n:Int):=by rw[e]; rfl
   have:=p8 cse.2 cse.1 hk.1 hk.2 y hy e1;have e2:y.2.1=(n:Int):=e2;omega
  have hsn:=p5 _ (Ybm hkn zA);obtain ⟨o1,o2,o3,o4⟩:=Yde (p2.chok hk') hready hw hnw hsn;obtain ⟨cs',e1,e2⟩:=Ydf q qc p1 (g,(n:Int),t) cse.2 cse.1 ⟨hk',p2.chok hk',hw,hnw,hsn⟩;have hgq:q.g g=s.g g:=by unfold MS.g; rw[p3]
  have hfit:q.fitW g (g,(n:Int),t) cse.2 cse.1:=by
   refine ⟨⟨r.hg.1,by rw[p3]; exact r.hg.2,.inr ⟨rfl,by rw[hgq]; exact r.st⟩⟩,.inl ?_⟩;unfold MS.instr;rw[hgq,p4];refine ⟨hop,by show (0:Int) <= (n:Int); omega,?_,?_⟩
   ·show (n:Int) < ((selAt s.p (s.instr g).2.1).1.length:Int);rw[<- hA,<- hl]; omega
   ·show caseAt s.p (s.instr g).2.1 n=_;rw[<- hA,hcs]
  have hch:∀ k:Int,0 <= k->k < s.cs.length->(q.offer (g,(n:Int),t) cse.2 cse.1).2.ch k=if k=cse.2 then ((q.ch cse.2).off cse.1 (g,(n:Int),t)).1 else q.ch k:=by
   intro k h0 h1;show (q.cs.set (toN cse.2) _).getD k.toNat zA=_;rw[show toN cse.2=cse.2.toNat from rfl,Y7z hkn];by_cases e:k=cse.2
   ·rw[if_pos e,if_pos (by rw[e])]
   ·rw[if_neg e,if_neg (by omega)]; rfl
  refine ⟨cs',e2,e1,p2.offer hk' hfit o1,p3,p4,fun a ha=>?_,by show (q.cs.set _ _).length=_; rw[List.length_set]; exact p6,fun k b h0 h1=>?_,fun k b h0 h1 y hy e=>?_⟩
  ·rcases List.mem_or_eq_of_mem_set ha with z | z
   ·exact p5 a z
   ·rw[z,o2]; exact hsn
  ·show ((q.offer (g,(n:Int),t) cse.2 cse.1).2.ch k).ready b g=_;rw[hch k h0 h1];split
   ·rename_i e;rw[show ((q.ch cse.2).off cse.1 (g,(n:Int),t)).1.ready b g=(q.ch cse.2).ready b g from o3 b,e]; exact p7 _ _ hk.1 hk.2
   ·exact p7 k b h0 h1
  ·have hy:y ∈ ((q.offer (g,(n:Int),t) cse.2 cse.1).2.ch k).mine b:=hy;rw[hch k h0 h1] at hy;split at hy
   ·rename_i e3;have ho:=Ydc (q.ch cse.2) cse.1 (g,(n:Int),t);by_cases eb:b=cse.1
    ·subst eb;rcases ho.mine y hy with z | ⟨z,_⟩
     ·have:=p8 cse.2 cse.1 hk.1 hk.2 y z e; omega
     ·rw[z]; show (n:Int) < ((n+1:Nat):Int); omega
    ·have eb:b=!cse.1:=by cases b <;> cases hz:cse.1 <;> simp_all
     rw[eb,<- Yjr] at hy;have:=ho.theirs y hy;rw[Yjr] at this;have:=p8 cse.2 (!cse.1) hk.1 hk.2 y this e; omega
   ·have:=p8 k b h0 h1 y hy e; omega
 let fo:=fun (n:Nat) (q:MS × List Ch)=>Z2w ((g,(n:Int),t),(l.getD n (false,0)).2,(l.getD n (false,0)).1,q.1.t q.2)
 let nx:Nat->MS × List Ch->MS × List Ch:=fun n q=>((q.1.offer (g,(n:Int),t) (l.getD n (false,0)).2 (l.getD n (false,0)).1).2,match fo n q with | some r=>r.2.2.2.2.1 | none=>[])
 have key:=Yav (f:=Za3) l.length (fun n q=>(t,l,(l.length:Int),(n:Int),q.1.p,(q.1.ev,q.1.st),c,q.1.gs,q.2,q.1.ls,q.1.os,q.1.L)) nx P (fun q=>(q.1.p,(q.1.ev,q.1.st),c,q.1.gs,q.2,q.1.ls,q.1.os,q.1.L)) (by
   rintro n q hnl hp;obtain ⟨cs',e1,e2⟩:=one n q hnl hp
   have hnx:nx n q=((q.1.offer (g,(n:Int),t) (l.getD n (false,0)).2 (l.getD n (false,0)).1).2,cs'):=by
    show ((q.1.offer (g,(n:Int),t) (l.getD n (false,0)).2 (l.getD n (false,0)).1).2,match fo n q with | some r=>r.2.2.2.2.1 | none=>[])=_;have:fo n q=_:=e1;rw[this]
   rw[hnx];refine ⟨?_,e2⟩;unfold Za3;simp only;rw[bif_t (dT9 (by omega)),bif_t (Y8t hnl),caz_eq,hc];rw[show Z2w ((g,(n:Int),t),(l.getD n (false,0)).2,(l.getD n (false,0)).1,q.1.p,(q.1.ev,q.1.st),q.1.gs,q.2,q.1.ls,q.1.os,q.1.L)=_ from e1,wrapI (by omega) (by omega)];rfl) (by
   rintro q -
   unfold Za3;simp only;rw[bif_f (dF9 (by omega))]) (s,cs) ⟨hr,h.weak g,rfl,rfl,hs,rfl,fun _ _ _ _=>rfl,fun k b h0 h1 y hy e=>absurd e (none0.1 k ⟨h0,h1⟩ b y hy)⟩
 have hpi:(upto nx 0 l.length (s,cs)).1=s.offers g t l:=Yk8 (fun q:MS × List Ch=>q.1) nx (fun n s=>(s.offer (g,(n:Int),t) (l.getD n (false,0)).2 (l.getD n (false,0)).1).2) (fun _ _=>rfl) l.length 0 (s,cs);obtain ⟨k1,k2,k3,k4,_⟩:=key;rw[hpi] at k1 k2 k3 k4;exact ⟨k3,k4,_,k2,k1⟩
theorem sel_x {cs:List Ch} (hr:RelCs cs s.cs) (h:GI s (-1)) (r:Rdy s g) (hb:s.Bd 4) (hs:∀ a ∈ s.cs,a.sent < 1048576) (k:Int) (hop:(s.instr g).1=4)
  (hk:k ≠ -1->0 <= k/\k < ((selAt s.p (s.instr g).2.1).1.length:Int))
  (hn:k=-1->∀ k,0 <= k->k < ((selAt s.p (s.instr g).2.1).1.length:Int)->(s.ch (caseAt s.p (s.instr g).2.1 k).2).ready (caseAt s.p (s.instr g).2.1 k).1 g=false) :
  GI (s.selO g k (s.instr g).2.1) (-1)/\∃ cs',RelCs cs' (s.selO g k (s.instr g).2.1).cs/\Z36 ((g,k),s.instr g,s.t cs)=some ((s.selO g k (s.instr g).2.1).t cs'):=by
 have hsb:=Yhg h r hop;have hpc:=r.pc h;have hof:=fun (q:k=-1)=>Ydh (cs:=cs) (s:=s.tell (g,8,(s.instr g).2.1,0,-1)) hr (h.tell _) ⟨r.hg,r.st⟩ s.ev hb.2.1 hs hop (s.instr g).2.1 rfl (hn q) (g,k) rfl
 unfold MS.selO Z36;simp only[neg1];rw[tel_x s cs 8 _ 0 (-1) hb];simp only[bS9,sel_eq,Y3d];have hb1:inb (s.instr g).2.1 s.p.2.2.2.2.1.length=true:=inbL.2 hsb;rw[bif_t hb1];by_cases ck:k=-1
 ·rw[if_neg (fun q=>q ck),bif_f (by simpa using ck)];obtain ⟨f1,f2,cs',f3,f4⟩:=hof ck;by_cases cd:(selAt s.p (s.instr g).2.1).2=true
  ·rw[if_pos cd,bif_t cd,tel_x (s.tell (g,8,(s.instr g).2.1,0,-1)) cs 9 _ 0 s.ev (hb.tell _)];simp only[bS9];rw[on_x (g:=g) ((s.tell (g,8,(s.instr g).2.1,0,-1)).tell (g,9,(s.instr g).2.1,0,s.ev)) cs r.hg (h.gok r.hg) hpc.2.2];exact ⟨((h.tell _).tell _).on ⟨r.hg,r.st⟩,cs,hr,rfl⟩
  ·rw[if_neg cd,bif_f (by simpa using cd)];have f4:loop Za3 (s.ev,(selAt s.p (s.instr g).2.1).1,((selAt s.p (s.instr g).2.1).1.length:Int),0,s.p,((s.tell (g,8,(s.instr g).2.1,0,-1)).ev,s.st),(g,k),s.gs,cs,s.ls,s.os,(s.tell (g,8,(s.instr g).2.1,0,-1)).L)=_:=f4;rw[f4];simp only[bS9];have f2:((s.tell (g,8,(s.instr g).2.1,0,-1)).offers g s.ev (selAt s.p (s.instr g).2.1).1).gs=s.gs:=f2;have hgl:0 <= g/\g < ((s.tell (g,8,(s.instr g).2.1,0,-1)).offers g s.ev (selAt s.p (s.instr g).2.1).1).gs.length:=by rw[f2]; exact r.hg
   rw[wai_x (g:=g) ((s.tell (g,8,(s.instr g).2.1,0,-1)).offers g s.ev (selAt s.p (s.instr g).2.1).1) cs' hgl];refine ⟨f1.wait hgl (by unfold MS.g; rw[f2]; exact r.st),cs',f3,rfl⟩
 ·rw[if_pos ck,bif_t (by simpa using ck)];have hk:=hk ck;have hcz:=Y3c h.rp hsb hk;rw[<- h.cl] at hcz;have hb2:inb k (selAt s.p (s.instr g).2.1).1.length=true:=inbL.2 hk;rw[bif_t hb2];have h1:=(h.tell (g,8,(s.instr g).2.1,0,-1)).pass (x:=(g,k,s.ev)) (k:=(caseAt s.p (s.instr g).2.1 k).2) (b:=(caseAt s.p (s.instr g).2.1 k).1) hcz r.hg r.st ⟨r.hg.1,hk.1,hb.2.1⟩ (hs _ (Ybm (by omega) zA)) (.inl ⟨hop,hk.1,hk.2,rfl⟩);obtain ⟨cs',r1,e1⟩:=pass_x (s.tell (g,8,(s.instr g).2.1,0,-1)) cs hr (g,k,s.ev) (caseAt s.p (s.instr g).2.1 k).2 (caseAt s.p (s.instr g).2.1 k).1 h1.2.1 r.hg ((hb.tell _).le (by omega)) h1.2.2.1 h1.2.2.2;refine ⟨h1.1,cs',r1,?_⟩;rw[e1];rfl
end
def lookI (k:Int) (m:List (Int × Int)):Int:=@mlook Int Int (Ty.beq (.int .i64)) (Ty.zero (.int .i64)) k m
theorem beq_ii (a b:Int):Ty.beq (.int .i64) a b=true ↔ a=b:=by
 show ((a == b)=true) ↔ _;simp
theorem Yag (o u o':Int) (l:List (Int × Int)):lookI o' (@mput Int Int (Ty.beq (.int .i64)) o u l)=if o'=o then u else lookI o' l :=
 Ych (α:=Int) (κ:=Int) (z:=0) beq_ii o u o' l
section
variable {s:MS} {g:Int}
theorem Yi1 {cs:List Ch} (hr:RelCs cs s.cs) (h:GI s (-1)) (i:In) (l:List W) (hl:l.length <= 64) (hb:s.Bd 80) (hw:∀ x ∈ l,s.fitW (-1) x i.2.1 false) :
  GI (s.shutL i.2.1 l) (-1)/\∃ cs',RelCs cs' (s.shutL i.2.1 l).cs/\loop Za5 (l,(l.length:Int),0,s.p,(s.ev,s.st),i,[],s.gs,cs,s.ls,s.os,s.L)=some ((s.shutL i.2.1 l).t cs'):=by
 let S:=(MS × List Int) × List (Int × Int) × List Ch
 let P:Nat->S->Prop:=fun n q=>RelCs q.2.2 q.1.1.cs/\GI q.1.1 (-1)/\q.1.1.Bd (80 - n)/\(∀ y,0 <= lookI y q.2.1/\lookI y q.2.1 <= n/\(lookI y q.2.1=0 ↔ y ∉ q.1.2)) /\
  (∀ j,n <= j->j < l.length->(l.getD j zeroW).1 ∉ q.1.2->q.1.1.fitW (-1) (l.getD j zeroW) i.2.1 false)
 let bump:Nat->S->List (Int × Int):=fun n q=>@mput Int Int (Ty.beq (.int .i64)) (l.getD n zeroW).1 (lookI (l.getD n zeroW).1 q.2.1+1) q.2.1
 let nx:Nat->S->S:=fun n q=>(MS.shutS i.2.1 l n q.1,bump n q,if (l.getD n zeroW).1 ∈ q.1.2 then q.2.2 else q.2.2.map fun c=>leaveC c (l.getD n zeroW).1)
 have key:=Yav (f:=Za5) l.length (fun n (q:S)=>(l,(l.length:Int),(n:Int),q.1.1.p,(q.1.1.ev,q.1.1.st),i,q.2.1,q.1.1.gs,q.2.2,q.1.1.ls,q.1.1.os,q.1.1.L)) nx P (fun q=>q.1.1.t q.2.2) (by
   rintro n ⟨⟨q,seen⟩,m,qc⟩ hn ⟨p1,p2,p3,p4,p5⟩;simp only at p1 p2 p3 p4 p5;have hx:=p5 n (Nat.le_refl _) hn;have hlk:=p4 (l.getD n zeroW).1
   have hbump:∀ y,0 <= lookI y (@mput Int Int (Ty.beq (.int .i64)) (l.getD n zeroW).1 (lookI (l.getD n zeroW).1 m+1) m)/\lookI y (@mput Int Int (Ty.beq (.int .i64)) (l.getD n zeroW).1 (lookI (l.getD n zeroW).1 m+1) m) <= ((n+1:Nat):Int)/\(lookI y (@mput Int Int (Ty.beq (.int .i64)) (l.getD n zeroW).1 (lookI (l.getD n zeroW).1 m+1) m)=0 ↔ ¬ (y=(l.getD n zeroW).1 \/ y ∈ seen)):=by
    intro y;rw[Yag];have:=p4 y;by_cases e:y=(l.getD n zeroW).1
    ·rw[if_pos e];refine ⟨by omega,by omega,⟨fun q=>by omega,fun q=>absurd (.inl e) q⟩⟩
    ·rw[if_neg e];refine ⟨this.1,by omega,?_⟩;rw[this.2.2];exact ⟨fun q z=>z.elim e q,fun q z=>q (.inr z)⟩
   have hge:getAt ((0:Int),((0:Int),(0:Int))) l (toN (n:Int))=l.getD n zeroW:=by rw[Y7v]; rfl
   have hwr:IntKind.wrap .i64 (@mlook Int Int (Ty.beq (.int .i64)) (Ty.zero (.int .i64)) (l.getD n zeroW).1 m+1)=lookI (l.getD n zeroW).1 m+1:=wrapI (by have:0 <= @mlook Int Int (Ty.beq (.int .i64)) (Ty.zero (.int .i64)) (l.getD n zeroW).1 m:=hlk.1; omega) (by have:@mlook Int Int (Ty.beq (.int .i64)) (Ty.zero (.int .i64)) (l.getD n zeroW).1 m <= n:=hlk.2.1; omega)
   have hfst:@mlook Int Int (Ty.beq (.int .i64)) (Ty.zero (.int .i64)) (l.getD n zeroW).1 (@mput Int Int (Ty.beq (.int .i64)) (l.getD n zeroW).1 (lookI (l.getD n zeroW).1 m+1) m)=lookI (l.getD n zeroW).1 m+1:=by
    have:=Yag (l.getD n zeroW).1 (lookI (l.getD n zeroW).1 m+1) (l.getD n zeroW).1 m;rw[if_pos rfl] at this;exact this
   show Za5 (l,(l.length:Int),(n:Int),q.p,(q.ev,q.st),i,m,q.gs,qc,q.ls,q.os,q.L)=some (.inl (l,(l.length:Int),((n+1:Nat):Int),_))/\P (n+1) (nx n ((q,seen),m,qc));unfold Za5;simp only;rw[bif_t (dT9 (by omega)),bif_t (Y8t hn)];simp only[hge,hwr];rw[wrapI (n:=(n:Int)+1) (by omega) (by omega)];by_cases c:(l.getD n zeroW).1 ∈ seen
   ·have h0:¬ lookI (l.getD n zeroW).1 m=0:=fun e=>(hlk.2.2.1 e) c
    have hnx:nx n ((q,seen),m,qc)=((q,seen),@mput Int Int (Ty.beq (.int .i64)) (l.getD n zeroW).1 (lookI (l.getD n zeroW).1 m+1) m,qc):=by
     show (MS.shutS i.2.1 l n (q,seen),_,if (l.getD n zeroW).1 ∈ seen then qc else _)=_;unfold MS.shutS;rw[if_pos c,if_pos c]
    rw[hnx,bif_f (beq_eq_false_iff_ne.2 (fun e=>by have e2:=hfst.symm.trans e; omega))];refine ⟨rfl,p1,p2,p3.le (by omega),fun y=>?_,fun j h1 h2 h3=>p5 j (by omega) h2 h3⟩;obtain ⟨b1,b2,b3⟩:=hbump y;refine ⟨b1,b2,b3.trans ⟨fun q z=>q (.inr z),fun q z=>z.elim (fun e=>q (e ▸ c)) q⟩⟩
   ·have h0:lookI (l.getD n zeroW).1 m=0:=hlk.2.2.2 c;have hf:=hx c;have hd:=p2.done_ok hf
    have hnx:nx n ((q,seen),m,qc)=((q.done (l.getD n zeroW) i.2.1 0 true,(l.getD n zeroW).1 :: seen),@mput Int Int (Ty.beq (.int .i64)) (l.getD n zeroW).1 (lookI (l.getD n zeroW).1 m+1) m,qc.map fun c=>leaveC c (l.getD n zeroW).1):=by
     show (MS.shutS i.2.1 l n (q,seen),_,if (l.getD n zeroW).1 ∈ seen then qc else _)=_;unfold MS.shutS;rw[if_neg c,if_neg c]
    have hdx:=done_x q qc p1 (l.getD n zeroW) i.2.1 0 2 hd (p3.le (by omega));rw[show decide ((2:Int)=2)=true from rfl] at hdx;rw[hnx,bif_t (beq_iff_eq.2 (hfst.trans (by rw[h0]; rfl))),hdx];refine ⟨rfl,?_,p2.done hf _ _ _ (-1) (.inl rfl),Y5d (show q.Bd ((80 - (n+1))+1) from p3.le (by omega)) _ _ _ _,fun y=>?_,fun j h1 h2 h3=>?_⟩
    ·show RelCs _ (q.done (l.getD n zeroW) i.2.1 0 true).cs;rw[Y5e]; exact Ya4 p1 _
    ·obtain ⟨b1,b2,b3⟩:=hbump y;exact ⟨b1,b2,b3.trans (not_congr List.mem_cons.symm)⟩
    ·have h3:(l.getD j zeroW).1 ∉ (l.getD n zeroW).1 :: seen:=h3;rw[List.mem_cons,not_or] at h3;have hy:=p5 j (by omega) h2 h3.2;have eg:=done_g q (l.getD n zeroW) ⟨hf.1.1,hf.1.2.1⟩ i.2.1 0 true hy.1.1 h3.1;refine ⟨⟨hy.1.1,?_,?_⟩,?_⟩
     ·show (l.getD j zeroW).1 < ((q.done (l.getD n zeroW) i.2.1 0 true).gs.length:Int);rw[Y5g q _ ⟨hf.1.1,hf.1.2.1⟩]; exact hy.1.2.1
     ·show ((q.done (l.getD n zeroW) i.2.1 0 true).g _).2.2.1=1 \/ _;rw[eg]; exact hy.1.2.2
     ·show fitI (q.done (l.getD n zeroW) i.2.1 0 true).p ((q.done (l.getD n zeroW) i.2.1 0 true).instr _) _ _ _;unfold MS.instr;rw[eg,done_p]; exact hy.2) (by
   rintro ⟨⟨q,seen⟩,m,qc⟩ -
   unfold Za5;simp only;rw[bif_f (dF9 (by omega))]) ((s,[]),[],cs) ⟨hr,h,hb,fun y=>⟨by show (0:Int) <= 0; omega,by show (0:Int) <= 0; omega,by simp; rfl⟩,fun j _ hj _=>hw _ (by rw[Y7y hj]; exact gm9 hj)⟩
 have hpi:(upto nx 0 l.length ((s,[]),[],cs)).1=upto (MS.shutS i.2.1 l) 0 l.length (s,[]):=Yk8 (fun q:S=>q.1) nx (MS.shutS i.2.1 l) (fun _ _=>rfl) l.length 0 ((s,[]),[],cs);obtain ⟨k1,k2,k3,_⟩:=key;rw[hpi] at k1 k2 k3;exact ⟨k3,_,k2,k1⟩
theorem shut_x {cs:List Ch} (hr:RelCs cs s.cs) (h:GI s (-1)) (r:Rdy s g) (hb:s.Bd 100) (c:Int) (hop:(s.instr g).1=3) :
  GI (s.shutO g (s.instr g).2.1) (-1)/\∃ cs',RelCs cs' (s.shutO g (s.instr g).2.1).cs/\Z3h ((g,c),s.instr g,s.t cs)=some ((s.shutO g (s.instr g).2.1).t cs'):=by
 have hi:=r.inok h
 have ha:0 <= (s.instr g).2.1/\(s.instr g).2.1 < s.cs.length:=by
  have h1:=hi.2.1;rw[hop] at h1;rw[h.cl];exact h1
 have hpc:=r.pc h;have hkn:(s.instr g).2.1.toNat < s.cs.length:=by omega
 have hrel:=hr.2 _ hkn;have hok:=h.chok ha;have hch:=hrel.ok.2 hok;have hac:inb (s.instr g).2.1 cs.length=true:=inbL.2 (by rw[hr.1]; exact ha);have hcl:=Y42 (cs.getD (s.instr g).2.1.toNat zeroC) (by have:=len1 hch; omega) (by have:=len2 hch; omega);rw[if_pos hch] at hcl;unfold MS.shutO Z3h;simp only[chz_eq,neg1];rw[bif_t hac,hcl];simp only[bS9];rcases hrel.close with ⟨e,q⟩ | ⟨q,c',e,hc'⟩
 ·have q:(s.ch (s.instr g).2.1).cap < 0 \/ (s.ch (s.instr g).2.1).closed=true \/ (s.ch (s.instr g).2.1).sends ≠ []:=q;rw[if_pos q,e];exact ⟨h.st 3,cs,hr,rfl⟩
 ·have q:¬ ((s.ch (s.instr g).2.1).cap < 0 \/ (s.ch (s.instr g).2.1).closed=true \/ (s.ch (s.instr g).2.1).sends ≠ []):=q;rw[if_neg q,e];simp only[cond_false];rw[bif_t hac];obtain ⟨A,hA⟩:∃ A,A=(s.instr g).2.1:=⟨_,rfl⟩
  have q1:¬ (s.ch (s.instr g).2.1).cap < 0:=fun z=>q (.inl z)
  have q2:(s.ch (s.instr g).2.1).sends=[]:=by
   cases hz:(s.ch (s.instr g).2.1).sends with
   | nil=>rfl
   | cons a l=>exact absurd (.inr (.inr (by rw[hz]; simp))) q
  have hcs:∀ j:Nat,(s.csset (s.instr g).2.1 (s.ch (s.instr g).2.1).close).ch j=if j=(s.instr g).2.1.toNat then (s.ch (s.instr g).2.1).close else s.ch j:=fun j=>Y7z hkn zA _ j
  have hkk:(((s.instr g).2.1.toNat:Nat):Int)=(s.instr g).2.1:=by omega
  have h1:GI (s.csset (s.instr g).2.1 (s.ch (s.instr g).2.1).close) (-1):=by
   refine ⟨h.rp,h.gl,h.gor,by show (s.cs.set _ _).length=_; rw[List.length_set]; exact h.cl,fun a ha=>?_,fun j hj=>?_,fun j hj=>?_,h.ll,h.lok,h.lw,h.ol,h.ook,h.ow⟩
   ·rcases List.mem_or_eq_of_mem_set ha with z | z
    ·exact h.ch a z
    ·rw[z]; exact hok.close q1 q2
   ·have hj:j < s.cs.length:=by have:j < (s.cs.set (toN (s.instr g).2.1) (s.ch (s.instr g).2.1).close).length:=hj; simpa using this
    rw[hcs];split
    ·rename_i z;have:=h.cc _ hkn;rw[hkk] at this;rw[z]; exact this
    ·exact h.cc j hj
   ·have hj:j < s.cs.length:=by have:j < (s.cs.set (toN (s.instr g).2.1) (s.ch (s.instr g).2.1).close).length:=hj; simpa using this
    rw[hcs];split
    ·refine ⟨fun y hy=>?_,fun y hy=>by cases hy⟩;have hy:y ∈ (s.ch (s.instr g).2.1).sends:=hy;rw[q2] at hy; cases hy
    ·exact h.cw j hj
  have h2:GI (((s.csset (s.instr g).2.1 (s.ch (s.instr g).2.1).close).tell (g,7,(s.instr g).2.1,0,-1)).on g) (-1):=(h1.tell _).on ⟨r.hg,r.st⟩
  have hfit:∀ x ∈ (s.ch (s.instr g).2.1).recvs,(((s.csset (s.instr g).2.1 (s.ch (s.instr g).2.1).close).tell (g,7,(s.instr g).2.1,0,-1)).on g).fitW (-1) x (s.instr g).2.1 false:=by
   intro x hx;have hf:=h.cw' ha false x hx;have hst:(s.g x.1).2.2.1=1:=hf.1.2.2.resolve_right (fun q=>by have:=hf.1.1; omega);have hne:x.1 ≠ g:=fun q=>by rw[q] at hst; have:=r.st; omega
   have eg:(((s.csset (s.instr g).2.1 (s.ch (s.instr g).2.1).close).tell (g,7,(s.instr g).2.1,0,-1)).on g).g x.1=s.g x.1:=on_g _ r.hg.1 hf.1.1 hne;refine ⟨⟨hf.1.1,by rw[on_len]; exact hf.1.2.1,by rw[eg]; exact .inl hst⟩,?_⟩;show fitI s.p (inAt s.p (MS.g _ x.1)) _ _ _;rw[eg];exact hf.2
  obtain ⟨k1,cs',k2,k3⟩:=Yi1 (cs:=cs.set (toN (s.instr g).2.1) c') (hr.set hc') h2 (s.instr g) (s.ch (s.instr g).2.1).recvs hok.rw.2.1 ((hb.le (show 81 <= 100 by omega)).tell (g,7,(s.instr g).2.1,0,-1)) hfit;refine ⟨k1,cs',k2,?_⟩;rw[tel_x (s.csset (s.instr g).2.1 (s.ch (s.instr g).2.1).close) (cs.set (toN (s.instr g).2.1) c') 7 _ 0 (-1) hb];simp only[bS9];rw[on_x (g:=g) ((s.csset (s.instr g).2.1 (s.ch (s.instr g).2.1).close).tell (g,7,(s.instr g).2.1,0,-1)) (cs.set (toN (s.instr g).2.1) c') r.hg (h.gok r.hg) hpc.2.2];simp only[bS9];show ((loop Za5 ((s.ch (s.instr g).2.1).recvs,((s.ch (s.instr g).2.1).recvs.length:Int),0,_)).bind _)=_;rw[k3];rfl
end
def anyS (gs:List Gor) (n:Int):Bool:=gs.any fun x=>x.2.2.1 == n
def MS.settle (s:MS):MS:=if s.st ≠ 0 \/ anyS s.gs 0=true then s else if anyS s.gs 1=true then { s with st:=2 } else { s with st:=1 }
theorem Y6s {α:Type} (l:List α) (p:α->Bool):(match l.findIdx? p with | some _=>true | none=>false)=l.any p:=by
 induction l with
 | nil=>rfl
 | cons a l ih =>
  rw[List.findIdx?_cons,List.any_cons];cases hp:p a with
  | true=>rfl
  | false =>
   rw[if_neg (by simp),Bool.false_or,<- ih];cases l.findIdx? p <;> rfl
theorem anyS_x (gs:List Gor) (n:Int) (hl:gs.length <= 1000):Z6j (gs,n)=some (anyS gs n,gs,n):=by
 have hf:=Yar (f:=Zav) gs (fun x=>x.2.2.1 == n) (fun k=>((gs.length:Int),(k:Int),gs,n)) (fun k=>.inl ((k:Int),gs,n)) (.inr (gs,n)) (by
   intro k hk;unfold Zav;simp only;rw[bif_t (dT9 (by omega)),bif_t (Y8t hk),Yk0,getAtL _ hk,wrapI (by omega) (by omega)];show ((Z3c (gs[k],n)).bind _)=_;unfold Z3c;simp only[bS9];cases gs[k].2.2.1 == n <;> rfl) (by
   unfold Zav;simp only;rw[bif_f (dF9 (by omega))])
 unfold Z6j Z73;simp only;rw[show loop Zav ((gs.length:Int),0,gs,n)=_ from hf];unfold anyS;rw[<- Y6s];cases gs.findIdx? (fun x=>x.2.2.1 == n) with
 | none=>rfl
 | some i=>simp only[bS9]; rw[dT9 (by omega)]
theorem Yhy (s:MS) (cs:List Ch) (hl:s.gs.length <= 1000):Z3a (s.t cs)=some ((s.settle).t cs):=by
 unfold Z3a MS.settle;simp only
 have h1:∀ n,Z3b (n,s.p,(s.ev,s.st),s.gs,cs,s.ls,s.os,s.L)=some (anyS s.gs n,s.t cs):=by
  intro n;unfold Z3b;simp only;rw[anyS_x s.gs n hl];rfl
 by_cases c0:s.st=0
 ·rw[bif_f (by simpa using c0),h1];simp only[bS9];by_cases c1:anyS s.gs 0=true
  ·rw[if_pos (.inr c1),bif_t c1]
  ·rw[if_neg (fun q=>q.elim (fun z=>z c0) c1),bif_f (by simpa using c1),h1];simp only[bS9];by_cases c2:anyS s.gs 1=true
   ·rw[if_pos c2,bif_t c2]
   ·rw[if_neg c2,bif_f (by simpa using c2)]
 ·rw[if_pos (.inl c0),bif_t (by simpa using c0)]
theorem GI.settle {s:MS} (h:GI s (-1)):GI s.settle (-1):=by
 unfold MS.settle;split
 ·exact h
 ·split
  ·exact h.st 2
  ·exact h.st 1
abbrev WT:=Pg × List Gor × List Ch × List Lk × List On × Int × Int
abbrev MS.w (s:MS) (cs:List Ch):WT:=(s.p,s.gs,cs,s.ls,s.os,s.ev,s.st)
theorem inz_eq (l:List In) (k:Int):getAt ((0:Int),((0:Int),(0:Int))) l (toN k)=l.getD k.toNat zIn:=by rw[Y7v]; rfl
theorem Y9f (p:Pg) (x:Gor) (h:gOK p x):Z1u (p,x)=some true:=by
 obtain ⟨h1,h2,h3,h4,h5,h6,h7⟩:=h;unfold Z1u;simp only[blk_eq];rw[bif_f (dF9 (by omega)),bif_f (dF9 (by omega)),bif_f (dF9 (by omega)),bif_t (inbL.2 ⟨h1,h2⟩),bif_f (dF9 (by omega)),bif_t (dT9 h5),bif_t (dT9 h6),bif_t (inbL.2 ⟨h1,h2⟩)];by_cases e:x.2.1=(blk p x.1).length
 ·rw[h7.1 e,e]; simp
 ·rw[beq_eq_false_iff_ne.2 e,beq_eq_false_iff_ne.2 (fun q=>e (h7.2 q))]; rfl
theorem Yip {p:Pg} (h:RightP p):small p:=by
 have hs:=h.sizes;unfold Yi4 at hs;simp only[ba9,decide_eq_true_eq,Y8r] at hs;refine ⟨by omega,by omega,by omega,fun s q=>by have:=(h.sels s q).1; omega,fun b q=>by have:=(h.blks b q).1; omega⟩
theorem Yg4 {p:Pg} (h:RightP p):Z4d p=some true:=by
 rw[Ye2 p (Yip h),dT9 ((Yg1 p).2 h)]
section
variable {s:MS}
theorem Ykf (h:GI s (-1)) (cs:List Ch) {x:W} (hx:s.who (-1) x):Z3t (s.w cs,x)=some (s.instr x.1,true):=by
 obtain ⟨h1,h2,h3⟩:=hx;have hst:(s.g x.1).2.2.1=1:=h3.resolve_right (fun q=>by omega);have hok:=h.gok ⟨h1,h2⟩;have hne:(s.g x.1).2.1 ≠ (blk s.p (s.g x.1).1).length:=fun e=>by have:=hok.2.2.2.2.2.2.1 e; omega
 have k1:=hok.1;have k2:=hok.2.1;have k3:=hok.2.2.1;have k4:=hok.2.2.2.1;unfold Z3t;simp only[gAt_eq,blk_eq,inz_eq];rw[bif_f (dF9 (by omega)),bif_t (inbL.2 ⟨h1,h2⟩),bif_f (by rw[show (gAt s.gs x.1).2.2.1=1 from hst]; rfl),bif_t (inbL.2 ⟨h1,h2⟩)];have e1:inb (gAt s.gs x.1).1 s.p.2.2.2.2.2.length=true:=inbL.2 ⟨k1,k2⟩;have e2:inb (gAt s.gs x.1).2.1 (blk s.p (gAt s.gs x.1).1).length=true:=inbL.2 ⟨k3,by show (s.g x.1).2.1 < ((blk s.p (s.g x.1).1).length:Int); omega⟩;rw[bif_t e1,bif_t e2];rfl
theorem fits_x (h:GI s (-1)) (cs:List Ch) {x:W} {k:Int} {b:Bool} (hx:s.fitW (-1) x k b):Z1s (s.w cs,x,k,b)=some true:=by
 have hst:(s.g x.1).2.2.1=1:=hx.1.2.2.resolve_right (fun q=>by have:=hx.1.1; omega);have hi:=Y8p h.rp (h.gok ⟨hx.1.1,hx.1.2.1⟩) (by omega);unfold Z1s;simp only;rw[Ykf h cs hx.1];simp only[bS9,sel_eq,Y3d];rw[bif_f (by rfl)];rcases hx.2 with ⟨q1,q2,q3,q4⟩ | ⟨q1,q2,q3⟩
 ·have hsb:inb (s.instr x.1).2.1 s.p.2.2.2.2.1.length=true:=by
   have h1:=hi.2.1;have e:(inAt s.p (s.g x.1)).1=4:=q1;rw[e] at h1;exact inbL.2 h1
  rw[bif_t (by simpa using q1),bif_t hsb,bif_t (dT9 q3),bif_t (inbL.2 ⟨q2,q3⟩),q4];simp
 ·have hB:(s.instr x.1).2.2=0:=by
   have h1:=hi.2.2;have e:(inAt s.p (s.g x.1)).1 ≠ 7:=by rw[show (inAt s.p (s.g x.1)).1=_ from q1]; split <;> omega
   rw[if_neg e] at h1;show (inAt s.p (s.g x.1)).2.2=0;omega
  cases b with
  | true =>
   have q1:(s.instr x.1).1=1:=q1;rw[bif_f (by rw[q1]; rfl),bif_t (by rfl),q1,q3,hB];simp
  | false =>
   have q1:(s.instr x.1).1=2:=q1;rw[bif_f (by rw[q1]; rfl),bif_f (by rfl),q1,q3,hB];simp
theorem wz_eq (l:List W) {k:Nat} (h:k < l.length):getAt ((0:Int),((0:Int),(0:Int))) l (toN (k:Int))=l[k]:=getAtL _ h
theorem odd_x (h:GI s (-1)) (cs:List Ch) (l:List W) (hl:l.length <= 64) (k:Int) (b:Bool) (hw:∀ x ∈ l,s.fitW (-1) x k b):Z6l (l,s.w cs,k,b)=some (false,s.w cs,k,b):=by
 have key:=Yap (f:=Zax) l.length (fun n=>(l,(l.length:Int),(n:Int),s.w cs,k,b)) (.inr (s.w cs,k,b)) (by
   intro n hn;unfold Zax;simp only;rw[bif_t (dT9 (by omega)),bif_t (Y8t hn),wz_eq l hn,wrapI (by omega) (by omega)];unfold Z22;simp only;rw[fits_x h cs (hw _ (gm9 hn))];rfl) (by
   unfold Zax;simp only;rw[bif_f (dF9 (by omega))]) 0 (Nat.zero_le _)
 unfold Z6l Z75;simp only;rw[show loop Zax (l,(l.length:Int),0,(s.p,s.gs,cs,s.ls,s.os,s.ev,s.st),k,b)=_ from key];rfl
theorem at_x (h:GI s (-1)) (cs:List Ch) (l:List W) (hl:l.length <= 64) (op k:Int) (hw:∀ x ∈ l,s.fitL (-1) x op k):Z6n (l,s.w cs,op,k)=some (false,s.w cs,op,k):=by
 have key:=Yap (f:=Zaz) l.length (fun n=>(l,(l.length:Int),(n:Int),s.w cs,op,k)) (.inr (s.w cs,op,k)) (by
   intro n hn;have hx:=hw _ (gm9 hn);unfold Zaz;simp only;rw[bif_t (dT9 (by omega)),bif_t (Y8t hn),wz_eq l hn,wrapI (by omega) (by omega)];unfold Z26;simp only;rw[Ykf h cs hx.1];simp only[bS9];rw[hx.2.2.1,hx.2.2.2];simp) (by
   unfold Zaz;simp only;rw[bif_f (dF9 (by omega))]) 0 (Nat.zero_le _)
 unfold Z6n Z77;simp only;rw[show loop Zaz (l,(l.length:Int),0,(s.p,s.gs,cs,s.ls,s.os,s.ev,s.st),op,k)=_ from key];rfl
theorem gors_x (p:Pg) (gs:List Gor) (hl:gs.length <= 8) (h:∀ x ∈ gs,gOK p x):Z6h (gs,p)=some (false,p):=by
 have key:=Yap (f:=Zat) gs.length (fun n=>(gs,(gs.length:Int),(n:Int),p)) (.inr p) (by
   intro n hn;unfold Zat;simp only;rw[bif_t (dT9 (by omega)),bif_t (Y8t hn),Yk0,getAtL _ hn,wrapI (by omega) (by omega)];show ((Z1z (gs[n],p)).bind _)=_;unfold Z1z;simp only;rw[Y9f p _ (h _ (gm9 hn))];rfl) (by
   unfold Zat;simp only;rw[bif_f (dF9 (by omega))]) 0 (Nat.zero_le _)
 unfold Z6h Z71;simp only;rw[show loop Zat (gs,(gs.length:Int),0,p)=_ from key];rfl
theorem Yj3 {cs:List Ch} (hr:RelCs cs s.cs) (h:GI s (-1)) (he:0 <= s.ev):Z1y (s.w cs)=some true:=by
 have hc4:=Y3a h.rp;have hcl:=h.cl;have hsz:=h.rp.sizes;unfold Yi4 at hsz;simp only[ba9,decide_eq_true_eq,Y8r] at hsz;have hll:=h.ll;have hol:=h.ol;have hgl:=h.gl;have hrl:=hr.1
 have l8:=Yap (f:=Z9x) cs.length (fun n=>(cs,(cs.length:Int),(n:Int),s.w cs,s.p)) (.inr (s.w cs)) (by
   intro n hn;have hn2:n < s.cs.length:=by omega
   have hrel:=hr.2 n hn2;have hok:=h.ch _ (Ybm hn2 zA);have hch:=hrel.ok.2 hok;have hcw:=h.cw n hn2;have hcap:(cs.getD n zeroC).1=s.p.1.getD n 0:=hrel.cap.trans (h.cc n hn2);have hpn:n < s.p.1.length:=by omega
   have l1:=len1 hch;have l2:=len2 hch;unfold Z9x;simp only[chz_eq];rw[bif_t (dT9 (by omega)),bif_t (Y8t hn),show ((n:Int)).toNat=n from rfl,Y33 _ (by omega) (by omega),dT9 hch];simp only[bS9];rw[bif_f (by rfl),bif_t (Y8t hpn),Y7v,show toN (n:Int)=n from rfl,bif_f (by rw[hcap]; simp)];unfold Z21;simp only[bS9];rw[hrel.sends,hrel.recvs,odd_x h cs _ hok.sw.2.1 n true hcw.1];simp only[bS9];rw[bif_f (by rfl),odd_x h cs _ hok.rw.2.1 n false hcw.2];simp only[bS9];rw[bif_f (by rfl),wrapI (by omega) (by omega)];rfl) (by
   unfold Z9x;simp only;rw[bif_f (dF9 (by omega))]) 0 (Nat.zero_le _)
 have l16:=Yap (f:=Z9t) s.ls.length (fun n=>(s.ls,(s.ls.length:Int),(n:Int),s.w cs)) (.inr (s.w cs)) (by
   intro n hn;have hok:=h.lok _ (Ybm hn (false,[]));have hlw:=h.lw n hn;unfold Z9t;simp only[lkz_eq];rw[bif_t (dT9 (by omega)),bif_t (Y8t hn),show ((n:Int)).toNat=n from rfl,Y9u _ (wlen hok.1),dT9 hok];simp only[bS9];rw[bif_f (by rfl)];unfold Z25;simp only[bS9];rw[at_x h cs _ hok.1.2.1 5 n hlw];simp only[bS9];rw[bif_f (by rfl),wrapI (by omega) (by omega)];rfl) (by
   unfold Z9t;simp only;rw[bif_f (dF9 (by omega))]) 0 (Nat.zero_le _)
 have l22:=Yap (f:=Z9v) s.os.length (fun n=>(s.os,(s.os.length:Int),(n:Int),s.w cs)) (.inr ()) (by
   intro n hn;have hok:=h.ook _ (Ybm hn zeroO);have how:=h.ow n hn;unfold Z9v;simp only[ocz_eq];rw[bif_t (dT9 (by omega)),bif_t (Y8t hn),show ((n:Int)).toNat=n from rfl,Yd7 _ (wlen hok.2.1),dT9 hok];simp only[bS9];rw[bif_f (by rfl)];unfold Z25;simp only[bS9];rw[at_x h cs _ hok.2.1.2.1 7 n how];simp only[bS9];rw[bif_f (by rfl),wrapI (by omega) (by omega)];rfl) (by
   unfold Z9v;simp only;rw[bif_f (dF9 (by omega))]) 0 (Nat.zero_le _)
 unfold Z1y;simp only;rw[Yg4 h.rp];simp only[bS9];rw[bif_f (by rfl),bif_f (dF9 (by omega)),bif_f (dF9 (by omega)),bif_f (by simp; omega),bif_f (by simp; omega),bif_f (by simp; omega),bif_f (dF9 (by omega)),gors_x s.p s.gs hgl.2 h.gor];simp only[bS9,cond_false];rw[show loop Z9x (cs,(cs.length:Int),0,(s.p,s.gs,cs,s.ls,s.os,s.ev,s.st),s.p)=_ from l8];simp only[bS9];rw[show loop Z9t (s.ls,(s.ls.length:Int),0,s.w cs)=_ from l16];simp only[bS9];rw[show loop Z9v (s.os,(s.os.length:Int),0,s.w cs)=_ from l22];rfl
end
end Go.Proofs.YtifbgkikkiallaaGreat.VX.VxZ_Z

