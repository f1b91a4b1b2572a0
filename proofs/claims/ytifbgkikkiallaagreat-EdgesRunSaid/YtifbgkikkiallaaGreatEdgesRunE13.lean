import Derived.Test.YtifbgkikkiallaaGreatEdgesRunE12
import Derived.Laws.Small
set_option linter.unusedVariables false
set_option linter.unusedSimpArgs false
namespace Go.Proofs.YtifbgkikkiallaaGreat.VX
inductive ZT where
 | data (t:Ty)
 | pr (a b:ZT)
 | one (a:ZT)
 | nl
 | nilp
 | nilm
 | nilf
 | nili
def ZT.av:ZT->AV
 | .data t=>.d t t.zero
 | .pr a b=>.pr a.av b.av
 | .one a=>.one a.av
 | .nl=>.nl
 | .nilp=>.nilp
 | .nilm=>.nilm
 | .nilf=>.nilf
 | .nili=>.nili
def zcN (f:List Value->Option (List Value)):Nat->List Value->Option (List Value)
 | 0,cs=>some cs
 | n+1,cs=>match f cs with
  | some r=>zcN f n r
  | none=>none
def zcB:Ty->List Value->Option (List Value)
 | .int k=>fun cs=>match cs with
  | .int k' n :: r=>bif Nat.beq (kno k) (kno k') && (n == 0) then some r else none
  | _=>none
 | .bool=>fun cs=>match cs with
  | .bool b :: r=>bif b then none else some r
  | _=>none
 | .str=>fun cs=>match cs with
  | .string s :: r=>bif Nat.beq s.data.toList.length 0 then some r else none
  | _=>none
 | .pair a b=>fun cs=>match zcB a cs with
  | some r=>zcB b r
  | none=>none
 | .one a=>zcB a
 | .slice _=>fun cs=>match cs with
  | .slice _ 0 _ :: r=>some r
  | _=>none
 | .arr n t=>zcN (zcB t) n
def zcA:ZT->List Value->Option (List Value)
 | .data t=>zcB t
 | .pr a b=>fun cs=>match zcA a cs with
  | some r=>zcA b r
  | none=>none
 | .one a=>zcA a
 | .nl=>fun cs=>match cs with
  | .slice none 0 0 :: r=>some r
  | _=>none
 | .nilp=>fun cs=>match cs with
  | .pointer none :: r=>some r
  | _=>none
 | .nilm=>fun cs=>match cs with
  | .map none :: r=>some r
  | _=>none
 | .nilf=>fun cs=>match cs with
  | .nilFunc :: r=>some r
  | _=>none
 | .nili=>fun cs=>match cs with
  | .nilIface :: r=>some r
  | _=>none
def emptyL {α:Type}:Option (List α)->Bool
 | some []=>true
 | _=>false
def zvB (zt:ZT) (z:Value):Bool:=bif zt.av.isAgg then (match z with
 | .agg ds=>emptyL (zcA zt ds.toList)
 | _=>false) else emptyL (zcA zt [z])
theorem zcN_ok {t:Ty} {f:List Value->Option (List Value)} (h:∀ cs r,f cs=some r->∃ c,cs=c++r/\∀ w ok,Rd w ok t t.zero c):∀ (n:Nat) (cs r:List Value),zcN f n cs=some r->∃ c,cs=c++r/\∀ w ok,RdL (Rd w ok t) (List.replicate n t.zero) c
 | 0,cs,r,e=>by cases e; exact ⟨[],rfl,fun _ _=>rfl⟩
 | n+1,cs,r,e=>by
  simp only[zcN] at e;split at e
  ·rename_i r1 h1;obtain ⟨c1,e1,q1⟩:=h cs r1 h1;obtain ⟨c2,e2,q2⟩:=zcN_ok h n r1 r e;exact ⟨c1++c2,by rw[e1,e2,la9],fun w ok=>⟨c1,c2,rfl,q1 w ok,q2 w ok⟩⟩
  ·cases e
theorem zcB_ok:∀ (t:Ty) (cs r:List Value),zcB t cs=some r->∃ c,cs=c++r/\∀ w ok,Rd w ok t t.zero c
 | .int k,cs,r,h=>by
  simp only[zcB] at h;split at h
  ·rename_i k' n r';obtain ⟨h1,h2⟩:=Y2j h;cases h2;rw[ba9] at h1;have e1:=Y9t h1.1;have e2:n=0:=by simpa using h1.2
   subst e1 e2;exact ⟨[_],rfl,fun w ok=>rfl⟩
  ·cases h
 | .bool,cs,r,h=>by
  simp only[zcB] at h;split at h
  ·rename_i b r';cases b with
   | true=>cases h
   | false=>cases h; exact ⟨[_],rfl,fun w ok=>rfl⟩
  ·cases h
 | .str,cs,r,h=>by
  simp only[zcB] at h;split at h
  ·rename_i s r';obtain ⟨h1,h2⟩:=Y2j h;cases h2;exact ⟨[_],rfl,fun w ok=>⟨s,rfl,List.eq_nil_of_length_eq_zero (eb9 h1)⟩⟩
  ·cases h
 | .pair a b,cs,r,h=>by
  simp only[zcB] at h;split at h
  ·rename_i r1 h1;obtain ⟨c1,e1,q1⟩:=zcB_ok a cs r1 h1;obtain ⟨c2,e2,q2⟩:=zcB_ok b r1 r h;exact ⟨c1++c2,by rw[e1,e2,la9],fun w ok=>⟨c1,c2,rfl,q1 w ok,q2 w ok⟩⟩
  ·cases h
 | .one a,cs,r,h=>zcB_ok a cs r h
 | .slice t,cs,r,h=>by
  simp only[zcB] at h;split at h
  ·cases h;exact ⟨[_],rfl,fun w ok=>⟨_,_,rfl,Nat.zero_le _,.inl rfl⟩⟩
  ·cases h
 | .arr n t,cs,r,h=>by
  obtain ⟨c,e,q⟩:=zcN_ok (fun cs r h=>zcB_ok t cs r h) n cs r h;exact ⟨c,e,fun w ok=>⟨List.length_replicate ..,q w ok⟩⟩
theorem zcA_ok:∀ (zt:ZT) (cs r:List Value),zcA zt cs=some r->zt.av.sto=true/\∃ c,cs=c++r/\∀ g w ok,RC g w ok zt.av c
 | .data t,cs,r,h=>by
  obtain ⟨c,e,q⟩:=zcB_ok t cs r h;exact ⟨rfl,c,e,fun g w ok=>q w ok⟩
 | .pr a b,cs,r,h=>by
  simp only[zcA] at h;split at h
  ·rename_i r1 h1;obtain ⟨s1,c1,e1,q1⟩:=zcA_ok a cs r1 h1;obtain ⟨s2,c2,e2,q2⟩:=zcA_ok b r1 r h;exact ⟨by simp[ZT.av,AV.sto,s1,s2],c1++c2,by rw[e1,e2,la9],fun g w ok=>⟨c1,c2,rfl,q1 g w ok,q2 g w ok⟩⟩
  ·cases h
 | .one a,cs,r,h=>by
  obtain ⟨s,c,e,q⟩:=zcA_ok a cs r h;exact ⟨s,c,e,fun g w ok=>q g w ok⟩
 | .nl,cs,r,h=>by
  simp only[zcA] at h;split at h
  ·cases h; exact ⟨rfl,[_],rfl,fun g w ok=>rfl⟩
  ·cases h
 | .nilp,cs,r,h=>by
  simp only[zcA] at h;split at h
  ·cases h; exact ⟨rfl,[_],rfl,fun g w ok=>rfl⟩
  ·cases h
 | .nilm,cs,r,h=>by
  simp only[zcA] at h;split at h
  ·cases h; exact ⟨rfl,[_],rfl,fun g w ok=>rfl⟩
  ·cases h
 | .nilf,cs,r,h=>by
  simp only[zcA] at h;split at h
  ·cases h; exact ⟨rfl,[_],rfl,fun g w ok=>rfl⟩
  ·cases h
 | .nili,cs,r,h=>by
  simp only[zcA] at h;split at h
  ·cases h; exact ⟨rfl,[_],rfl,fun g w ok=>rfl⟩
  ·cases h
theorem Y65 {α:Type} {o:Option (List α)} (h:emptyL o=true):o=some []:=by
 unfold emptyL at h; split at h
 ·rfl
 ·cases h
theorem zvB_ok {zt:ZT} {z:Value} (h:zvB zt z=true):zt.av.sto=true/\∀ g w ok,RV g w ok zt.av z:=by
 unfold zvB at h;cases ha:zt.av.isAgg with
 | true =>
  rw[ha] at h;simp only[cond_true] at h;split at h
  ·rename_i ds;obtain ⟨s,c,e,q⟩:=zcA_ok zt _ _ (Y65 h);rw[List.append_nil] at e;exact ⟨s,fun g w ok=>⟨fun _=>⟨ds.toList,by simp,by rw[e]; exact q g w ok⟩,fun e=>(by rw[ha] at e; cases e)⟩⟩
  ·cases h
 | false =>
  rw[ha] at h;obtain ⟨s,c,e,q⟩:=zcA_ok zt _ _ (Y65 h);rw[List.append_nil] at e;exact ⟨s,fun g w ok=>⟨fun e=>(by rw[ha] at e; cases e),fun _=>by rw[e]; exact q g w ok⟩⟩
def Yhe:Sel->Bool
 | .fld _ _ _=>true
 | .inn=>true
 | .idx i _ n=>Nat.blt i n
 | _=>false
theorem Yhf {s:Sel} (h:Yhe s=true) (n:Nat):s.ok n:=by
 cases s <;> first | trivial | cases h; done | exact Nat.le_of_ble_eq_true h
section
variable (P:Program)
def fldsB:List Field->List Sel->List Nat->List Bool->Bool
 | [],[],[],[]=>true
 | f :: fs,s :: ss,n :: ns,b :: bs=>Yhe s && (Nat.beq f.offset s.off && ((match P.info? f.type,P.underlying f.type with
  | some fi,some d=>Nat.beq fi.size n && (!Nat.beq n 0 && (isAggD d == b))
  | _,_=>false) && fldsB fs ss ns bs))
 | _,_,_,_=>false
def arrB (esz:Nat):List Sel->List Nat->Nat->Bool
 | [],[],_=>true
 | s :: ss,n :: ns,j=>Yhe s && (Nat.beq s.off (j * esz) && (Nat.beq n esz && arrB esz ss ns (j+1)))
 | _,_,_=>false
def notIB:TypeDesc->Bool
 | .interface _=>false
 | _=>true
def tiB (t:TypeId) (i:TI) (zt:ZT):Bool :=
 match P.info? t,P.underlying t with
 | some f,some d=>match f.zero with
  | some z=>(isAggD d == i.agg) && (Nat.beq f.size i.size && (zvB zt z && (Nat.beq z.cells.size i.size && (
   (match d with
    | .struct fs=>(Nat.beq i.kind 1 || Nat.beq i.kind 0) && (bif Nat.beq i.kind 1 then fldsB P fs.toList i.flds i.fsz i.fag else Nat.beq i.flds.length 0)
    | .array n e=>match P.info? e,P.underlying e with
     | some fi,some de=>(Nat.beq i.kind 3 || Nat.beq i.kind 4) && (Nat.beq n i.alen && (Nat.beq fi.size i.esz && ((isAggD de == getAt false i.fag 0) && arrB i.esz i.flds i.fsz 0)))
     | _,_=>false
    | .slice e=>Nat.beq i.flds.length 0 && ((Nat.beq i.kind 2 || Nat.beq i.kind 0) && (bif Nat.beq i.kind 2 then (match P.info? e with
     | some fi=>match fi.zero with
      | some ez=>Nat.beq fi.size i.ety.size && (Nat.beq fi.bytes i.bytes && (emptyL (zcB i.ety ez.cells.toList) && (Nat.blt 0 i.ety.size && Nat.blt 0 i.bytes)))
      | none=>false
     | none=>false) else true))
    | .string=>Nat.beq i.flds.length 0 && (Nat.beq i.kind 5 || Nat.beq i.kind 0)
    | .map kt vt=>Nat.beq i.flds.length 0 && ((Nat.beq i.kind 6 || Nat.beq i.kind 0) && (bif i.mky then keyB P kt i.kty && (match P.info? vt with
     | some fi=>match fi.zero with
      | some ez=>zvB (.data i.ety) ez
      | none=>false
     | none=>false) else true) && (bif i.fmk then keyB P kt (.int .i64) && (match P.info? vt with
     | some fi=>match fi.zero with
      | some ez=>zvB .nilf ez
      | none=>false
     | none=>false) else true) && (bif i.mok then keyB P kt i.kty && (match P.info? vt with
     | some fi=>match fi.zero with
      | some ez=>zvB .nl ez
      | none=>false
     | none=>false) else true))
    | .pointer ar=>Nat.beq i.flds.length 0 && ((Nat.beq i.kind 7 || Nat.beq i.kind 0) && (bif Nat.beq i.kind 7 then (match P.underlying ar with
     | some (.array n _)=>Nat.beq n i.alen
     | _=>false) else true))
    | .int kd=>Nat.beq i.flds.length 0 && ((Nat.beq i.kind 8 || Nat.beq i.kind 0) && (match i.ty with
     | .int k=>Nat.beq (kno k) (kno kd)
     | _=>true))
    | _=>Nat.beq i.flds.length 0 && Nat.beq i.kind 0) && ((bif i.eqk then !P.eqGuardType P.depth t && fitB P 100 t i.ty else true) && (bif i.notI then notIB d else true))))))
  | none=>false
 | _,_=>false
end
def mkTb:List (Nat × TI × ZT)->List (Nat × TI)
 | []=>[]
 | (n,i,z) :: l=>(n,{ i with zero:=z.av }) :: mkTb l
def tbB (P:Program):List (Nat × TI × ZT)->Bool
 | []=>true
 | (n,i,z) :: l=>tiB P n i z && tbB P l
section
variable {P:Program}
theorem Y76:∀ {fs:List Field} {ss:List Sel} {ns:List Nat} {bs:List Bool},fldsB P fs ss ns bs=true->fs.length=ss.length /\
  (∃ places,fs.mapM (fun f=>(P.info? f.type).map fun i=>(f.offset,i.size))=some places/\∀ k,k < ss.length->places[k]?=some ((getAt Sel.inn ss k).off,getAt 0 ns k)) /\
  ∀ k,k < ss.length->∃ f fi d,fs[k]?=some f/\f.offset=(getAt Sel.inn ss k).off/\P.info? f.type=some fi/\fi.size=getAt 0 ns k/\fi.size ≠ 0/\P.underlying f.type=some d/\isAggD d=getAt false bs k/\∀ n,(getAt Sel.inn ss k).ok n
 | [],[],[],[],_=>⟨rfl,⟨[],rfl,fun k h=>by simp at h⟩,fun k h=>by simp at h⟩
 | f :: fs,s :: ss,n :: ns,b :: bs,h=>by
  have h:(Yhe s && (Nat.beq f.offset s.off && ((match P.info? f.type,P.underlying f.type with
   | some fi,some d=>Nat.beq fi.size n && (!Nat.beq n 0 && (isAggD d == b))
   | _,_=>false) && fldsB P fs ss ns bs)))=true:=h
  simp only[ba9] at h;obtain ⟨h1,h2,h3,h4⟩:=h;split at h3
  ·rename_i fi d e1 e2;simp only[ba9] at h3;obtain ⟨q1,q2,q3⟩:=h3;obtain ⟨r1,⟨places,r2,r3⟩,r4⟩:=Y76 h4;have hs:=eb9 q1;have hof:=eb9 h2;refine ⟨by simp[r1],⟨(f.offset,fi.size) :: places,?_,fun k hk=>?_⟩,fun k hk=>?_⟩
   ·simp[List.mapM_cons,e1,r2]
   ·cases k with
    | zero=>simp[getAt,hs,hof]
    | succ k=>simpa[getAt] using r3 k (by simpa using hk)
   ·cases k with
    | zero =>
     refine ⟨f,fi,d,rfl,hof,e1,hs,fun e=>?_,e2,Y2h q3,Yhf h1⟩;rw[<- hs,e] at q2; cases q2
    | succ k=>simpa[getAt] using r4 k (by simpa using hk)
  ·cases h3
 | [],_ :: _,_,_,h=>by cases h
 | [],[],_ :: _,_,h=>by cases h
 | [],[],[],_ :: _,h=>by cases h
 | _ :: _,[],_,_,h=>by cases h
 | _ :: _,_ :: _,[],_,h=>by cases h
 | _ :: _,_ :: _,_ :: _,[],h=>by cases h
theorem Y1x {esz:Nat}:∀ {ss:List Sel} {ns:List Nat} {j:Nat},arrB esz ss ns j=true->∀ k,k < ss.length->(getAt Sel.inn ss k).off=(j+k) * esz/\getAt 0 ns k=esz/\∀ n,(getAt Sel.inn ss k).ok n
 | [],_,_,_,k,hk=>by simp at hk
 | s :: ss,n :: ns,j,h,k,hk=>by
  have h:(Yhe s && (Nat.beq s.off (j * esz) && (Nat.beq n esz && arrB esz ss ns (j+1))))=true:=h;simp only[ba9] at h;obtain ⟨h1,h2,h3,h4⟩:=h;cases k with
  | zero=>exact ⟨eb9 h2,eb9 h3,Yhf h1⟩
  | succ k =>
   have:=Y1x h4 k (by simpa using hk);rw[show j+1+k=j+(k+1) by omega] at this;exact this
 | _ :: _,[],_,h,_,_=>by cases h
theorem getElem?_of_toList {α:Type} {a:Array α} {k:Nat} {x:α} (h:a.toList[k]?=some x):a[k]?=some x:=by simpa using h
theorem tiB_ok {t:TypeId} {i:TI} {zt:ZT} (h:tiB P t i zt=true):TIok P t { i with zero:=zt.av }:=by
 unfold tiB at h;split at h
 ·rename_i f d hf hd;split at h
  ·rename_i z hz;simp only[ba9] at h;obtain ⟨h1,h2,h3,h4,h5,h6,h7⟩:=h
   have hnotI:i.notI=true->∃ d,P.underlying t=some d/\∀ ms,d ≠ .interface ms:=by
    intro hk;rw[hk] at h7;refine ⟨d,hd,fun ms e=>?_⟩;subst e; cases h7
   obtain ⟨s1,s2⟩:=zvB_ok h3;have hagg:=Y2h h1;have hsz:=eb9 h2;have hcs:=eb9 h4;have hinfo:∃ f z',P.info? t=some f/\f.size=i.size/\f.zero=some z'/\zt.av.sto=true/\z'.cells.size=i.size/\∀ g w ok,RV g w ok zt.av z':=⟨f,z,hf,hsz,hz,s1,hcs,s2⟩
   have heq:i.eqk=true->P.eqGuardType P.depth t=false/\∀ g w ok x y cx cy,RV g w ok (.d i.ty x) cx->RV g w ok (.d i.ty y) cy->(Op.equal t cx cy).run P w=.ok (i.ty.beq x y) w:=by
    intro hk;rw[hk] at h6;simp only[cond_true,ba9,Bool.not_eq_true'] at h6;exact ⟨h6.1,fun g w ok x y cx cy hx hy=>Y71 100 t i.ty h6.2 10000 (by omega) w x y cx cy ⟨_,_,_,hx⟩ ⟨_,_,_,hy⟩⟩
   have none0:∀ {q:Prop},Nat.beq i.flds.length 0=true->0 < i.flds.length->q:=fun e e'=>by have:=eb9 e; omega
   cases d with
   | struct fs =>
    simp only[ba9,Bool.or_eq_true] at h5;obtain ⟨k1,k2⟩:=h5;have kk:i.kind=1 \/ i.kind=0:=k1.imp eb9 eb9;refine ⟨⟨_,hd,hagg⟩,hinfo,fun hl=>?_,fun hk=>?_,fun hk=>?_,fun hk=>?_,fun hk=>?_,fun hk=>?_,hnotI,fun hk=>?_,heq,fun kd hk=>?_⟩
    ·cases hb:Nat.beq i.kind 1 with
     | false=>rw[hb] at k2; exact none0 k2 hl
     | true =>
      rw[hb] at k2;obtain ⟨r1,⟨places,r2,r3⟩,r4⟩:=Y76 k2;refine ⟨f,z,(places.toArray[·]?),hf,hz,fun parts=>?_,fun k hk=>⟨by simpa using r3 k hk,?_⟩⟩
      ·unfold Program.built;simp only[hf,hd,hz,r2]
      ·obtain ⟨_,_,_,_,_,_,_,_,_,_,h⟩:=r4 k hk;exact h
    ·have hk:i.kind=1:=hk;rw[hk] at k2;obtain ⟨r1,_,r4⟩:=Y76 k2;refine ⟨fs,hd,fun k hk=>?_⟩;obtain ⟨f',fi,d',q1,q2⟩:=r4 k hk;exact ⟨f',fi,d',getElem?_of_toList q1,q2⟩
    ·have hk:i.kind=2:=hk;omega
    ·rcases hk with hk | hk <;> (have hk:i.kind=_:=hk) <;> omega
    all_goals (have hk:i.kind=_:=hk) <;> omega
   | array n e =>
    dsimp only at h5;split at h5
    ·rename_i fi de e1 e2;simp only[ba9,Bool.or_eq_true] at h5;obtain ⟨k1,k2,k3,k4,k5⟩:=h5;have kk:i.kind=3 \/ i.kind=4:=k1.imp eb9 eb9;have hn:=eb9 k2;have hes:=eb9 k3;have ha:=Y1x k5;refine ⟨⟨_,hd,hagg⟩,hinfo,fun hl=>?_,fun hk=>?_,fun hk=>?_,fun hk=>?_,fun hk=>?_,fun hk=>?_,hnotI,fun hk=>?_,heq,fun kd hk=>?_⟩
     ·refine ⟨f,z,fun k=>some (k * fi.size,fi.size),hf,hz,fun parts=>?_,fun k hk=>?_⟩
      ·unfold Program.built;simp only[hf,hd,hz,e1]
      ·obtain ⟨a1,a2,a3⟩:=ha k hk;rw[Nat.zero_add] at a1;exact ⟨by show some (k * fi.size,fi.size)=some ((getAt Sel.inn i.flds k).off,getAt 0 i.fsz k); rw[a1,a2,hes],a3⟩
     ·have hk:i.kind=1:=hk;omega
     ·have hk:i.kind=2:=hk;omega
     ·refine ⟨e,fi,de,by rw[hd,hn],e1,hes,⟨e2,Y2h k4,fun j hj=>?_⟩⟩;obtain ⟨a1,a2,a3⟩:=ha j hj;rw[Nat.zero_add] at a1;exact ⟨a1,a3⟩
     all_goals (have hk:i.kind=_:=hk) <;> omega
    ·cases h5
   | slice e =>
    simp only[ba9,Bool.or_eq_true] at h5;obtain ⟨k0,k1,k2⟩:=h5;have kk:i.kind=2 \/ i.kind=0:=k1.imp eb9 eb9;refine ⟨⟨_,hd,hagg⟩,hinfo,fun hl=>none0 k0 hl,fun hk=>?_,fun hk=>?_,fun hk=>?_,fun hk=>?_,fun hk=>?_,hnotI,fun hk=>?_,heq,fun kd hk=>?_⟩
    ·have hk:i.kind=1:=hk;omega
    ·have hk:i.kind=2:=hk;rw[hk] at k2;simp only[Nat.beq_refl,cond_true] at k2;split at k2
     ·rename_i fi e1;split at k2
      ·rename_i ez e2;simp only[ba9] at k2;obtain ⟨q1,q2,q3,q4,q5⟩:=k2;obtain ⟨c,e3,e4⟩:=zcB_ok _ _ _ (Y65 q3);rw[List.append_nil] at e3;exact ⟨e,fi,ez,hd,e1,eb9 q1,eb9 q2,e2,fun w ok=>by rw[e3]; exact e4 w ok,by simpa using q4,by simpa using q5⟩
      ·cases k2
     ·cases k2
    ·rcases hk with hk | hk <;> (have hk:i.kind=_:=hk) <;> omega
    all_goals (have hk:i.kind=_:=hk) <;> omega
   | string =>
    simp only[ba9,Bool.or_eq_true] at h5;obtain ⟨k0,k1⟩:=h5;have kk:i.kind=5 \/ i.kind=0:=k1.imp eb9 eb9;refine ⟨⟨_,hd,hagg⟩,hinfo,fun hl=>none0 k0 hl,fun hk=>?_,fun hk=>?_,fun hk=>?_,fun hk=>hd,fun hk=>?_,hnotI,fun hk=>?_,heq,fun kd hk=>?_⟩
    ·have hk:i.kind=1:=hk;omega
    ·have hk:i.kind=2:=hk;omega
    ·rcases hk with hk | hk <;> (have hk:i.kind=_:=hk) <;> omega
    all_goals (have hk:i.kind=_:=hk) <;> omega
   | map kt vt =>
    simp only[ba9,Bool.or_eq_true] at h5;obtain ⟨k0,⟨⟨k1,k2⟩,k4⟩,k5⟩:=h5
    have hfk:i.fmk=true->KeyOK P kt (.int .i64)/\∃ fi ez,P.info? vt=some fi/\fi.zero=some ez/\∀ g w ok,RV g w ok .nilf ez:=by
     intro hm;rw[hm] at k4;simp only[cond_true,ba9] at k4;refine ⟨Y9q k4.1,?_⟩;have k3:=k4.2;split at k3
     ·rename_i fi e1;split at k3
      ·rename_i ez e2;obtain ⟨s1,s2⟩:=zvB_ok k3;exact ⟨fi,ez,e1,e2,s2⟩
      ·cases k3
     ·cases k3
    have hok:i.mok=true->KeyOK P kt i.kty/\∃ fi ez,P.info? vt=some fi/\fi.zero=some ez/\∀ g w ok,RV g w ok .nl ez:=by
     intro hm;rw[hm] at k5;simp only[cond_true,ba9] at k5;refine ⟨Y9q k5.1,?_⟩;have k3:=k5.2;split at k3
     ·rename_i fi e1;split at k3
      ·rename_i ez e2;obtain ⟨s1,s2⟩:=zvB_ok k3;exact ⟨fi,ez,e1,e2,s2⟩
      ·cases k3
     ·cases k3
    have kk:i.kind=6 \/ i.kind=0:=k1.imp eb9 eb9
    have hmk:i.mky=true->KeyOK P kt i.kty/\∃ fi ez,P.info? vt=some fi/\fi.zero=some ez/\∀ g w ok,RV g w ok (.d i.ety i.ety.zero) ez:=by
     intro hm;rw[hm] at k2;simp only[cond_true,ba9] at k2;refine ⟨Y9q k2.1,?_⟩;have k3:=k2.2;split at k3
     ·rename_i fi e1;split at k3
      ·rename_i ez e2;obtain ⟨s1,s2⟩:=zvB_ok k3;exact ⟨fi,ez,e1,e2,s2⟩
      ·cases k3
     ·cases k3
    refine ⟨⟨_,hd,hagg⟩,hinfo,fun hl=>none0 k0 hl,fun hk=>?_,fun hk=>?_,fun hk=>?_,fun hk=>?_,fun hk=>⟨kt,vt,hd,hmk,hfk,hok⟩,hnotI,fun hk=>?_,heq,fun kd hk=>?_⟩
    ·have hk:i.kind=1:=hk;omega
    ·have hk:i.kind=2:=hk;omega
    ·rcases hk with hk | hk <;> (have hk:i.kind=_:=hk) <;> omega
    all_goals (have hk:i.kind=_:=hk) <;> omega
   | pointer ar =>
    simp only[ba9,Bool.or_eq_true] at h5;obtain ⟨k0,k1,k2⟩:=h5;have kk:i.kind=7 \/ i.kind=0:=k1.imp eb9 eb9;refine ⟨⟨_,hd,hagg⟩,hinfo,fun hl=>none0 k0 hl,fun hk=>?_,fun hk=>?_,fun hk=>?_,fun hk=>?_,fun hk=>?_,hnotI,fun hk=>?_,heq,fun kd hk=>?_⟩
    ·have hk:i.kind=1:=hk;omega
    ·have hk:i.kind=2:=hk;omega
    ·rcases hk with hk | hk <;> (have hk:i.kind=_:=hk) <;> omega
    ·have hk:i.kind=5:=hk;omega
    ·have hk:i.kind=6:=hk;omega
    ·have hk:i.kind=7:=hk;rw[hk] at k2;simp only[Nat.beq_refl,cond_true] at k2;split at k2
     ·rename_i n e e1;exact ⟨ar,e,hd,by rw[e1,eb9 k2]⟩
     ·cases k2
    ·have hk:i.kind=8:=hk;omega
   | int kd =>
    simp only[ba9,Bool.or_eq_true] at h5;obtain ⟨k0,k1,k2⟩:=h5;have kk:i.kind=8 \/ i.kind=0:=k1.imp eb9 eb9;refine ⟨⟨_,hd,hagg⟩,hinfo,fun hl=>none0 k0 hl,fun hk=>?_,fun hk=>?_,fun hk=>?_,fun hk=>?_,fun hk=>?_,hnotI,fun hk=>?_,heq,fun kd' hk hty=>?_⟩
    ·have hk:i.kind=1:=hk;omega
    ·have hk:i.kind=2:=hk;omega
    ·rcases hk with hk | hk <;> (have hk:i.kind=_:=hk) <;> omega
    ·have hk:i.kind=5:=hk;omega
    ·have hk:i.kind=6:=hk;omega
    ·have hk:i.kind=7:=hk;omega
    ·have hty:i.ty=.int kd':=hty;rw[hty] at k2;have:=Y9t k2;subst this;exact hd
   | _ =>
    simp only[ba9] at h5;obtain ⟨k0,k1⟩:=h5;have kk:i.kind=0:=eb9 k1;refine ⟨⟨_,hd,hagg⟩,hinfo,fun hl=>none0 k0 hl,fun hk=>?_,fun hk=>?_,fun hk=>?_,fun hk=>?_,fun hk=>?_,hnotI,fun hk=>?_,heq,fun kd hk=>?_⟩
    ·have hk:i.kind=1:=hk;omega
    ·have hk:i.kind=2:=hk;omega
    ·rcases hk with hk | hk <;> (have hk:i.kind=_:=hk) <;> omega
    all_goals (have hk:i.kind=_:=hk) <;> omega
  ·cases h
 ·cases h
theorem tbB_ok:∀ {l:List (Nat × TI × ZT)},tbB P l=true->∀ t i,tget t (mkTb l)=some i->TIok P t i
 | [],_,t,i,h=>by cases h
 | (n,j,z) :: l,h,t,i,hg=>by
  have h:(tiB P n j z && tbB P l)=true:=h;rw[ba9] at h;have hg:(bif Nat.beq n t then some { j with zero:=z.av } else tget t (mkTb l))=some i:=hg;cases hb:Nat.beq n t with
  | true =>
   rw[hb] at hg;have:=eb9 hb;subst this;cases hg;exact tiB_ok h.1
  | false=>rw[hb] at hg; exact tbB_ok h.2 t i hg
end
end Go.Proofs.YtifbgkikkiallaaGreat.VX

