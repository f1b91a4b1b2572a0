import Derived.Test.YtifbgkikkiallaaGreatEdgesRunE11
import Derived.LoopNIn
set_option linter.unusedVariables false
set_option linter.unusedSimpArgs false
namespace Go.Proofs.YtifbgkikkiallaaGreat.VX
def iter {X Y:Type} (f:X->Option (X ⊕ Y)):Nat->X->Option Y
 | 0,_=>none
 | n+1,x=>match f x with
  | some (.inl x')=>iter f n x'
  | some (.inr y)=>some y
  | none=>none
theorem Y9m {X Y:Type} {f:X->Option (X ⊕ Y)}:∀ (n k:Nat) (x:X) (y:Y),iter f n x=some y->iter f (n+k) x=some y
 | 0,k,x,y,h=>by cases h
 | n+1,k,x,y,h=>by
  rw[show n+1+k=(n+k)+1 by omega];simp only[iter] at h ⊢;split at h
  ·rename_i x' hx; exact Y9m n k x' y h
  ·exact h
  ·cases h
open Classical in
noncomputable def loop {X Y:Type} (f:X->Option (X ⊕ Y)) (x:X):Option Y:=if h:∃ y,∃ n,iter f n x=some y then some h.choose else none
theorem Yat {X Y:Type} {f:X->Option (X ⊕ Y)} {x:X} {y:Y}:loop f x=some y ↔ ∃ n,iter f n x=some y:=by
 unfold loop;constructor
 ·intro h;split at h
  ·rename_i hx; cases h; exact hx.choose_spec
  ·cases h
 ·rintro ⟨n,hn⟩;have hx:∃ y,∃ n,iter f n x=some y:=⟨y,n,hn⟩
  rw[dif_pos hx];obtain ⟨k,hk⟩:=hx.choose_spec;have h1:=Y9m n k x y hn;have h2:=Y9m k n x _ hk;rw[Nat.add_comm] at h2;rw[h1] at h2; exact h2.symm
theorem Yaq {X Y:Type} (f:X->Option (X ⊕ Y)) (x:X):loop f x=match f x with
  | some (.inl x')=>loop f x'
  | some (.inr y)=>some y
  | none=>none:=by
 cases hf:f x with
 | none =>
  cases hl:loop f x with
  | none=>rfl
  | some y =>
   obtain ⟨n,hn⟩:=Yat.1 hl;cases n with
   | zero=>cases hn
   | succ n=>simp only[iter,hf] at hn; cases hn
 | some z =>
  cases z with
  | inr y=>exact Yat.2 ⟨1,by simp[iter,hf]⟩
  | inl x' =>
   show loop f x=loop f x';cases hl:loop f x' with
   | some y =>
    obtain ⟨n,hn⟩:=Yat.1 hl;exact Yat.2 ⟨n+1,by simp only[iter,hf]; exact hn⟩
   | none =>
    cases hl2:loop f x with
    | none=>rfl
    | some y =>
     obtain ⟨n,hn⟩:=Yat.1 hl2;cases n with
     | zero=>cases hn
     | succ n =>
      simp only[iter,hf] at hn;rw[Yat.2 ⟨n,hn⟩] at hl; cases hl
inductive ETag where
 | normal
 | exit (i:Nat)
 | goto (l:Nat)
 | ret
def ETag.is:ETag->Ex->Bool
 | .normal,.normal=>true
 | .exit i,.exit j=>Nat.beq i j
 | .goto i,.goto j=>Nat.beq i j
 | .ret,.ret=>true
 | _,_=>false
def ETag.ex:ETag->Ex
 | .normal=>.normal
 | .exit i=>.exit i
 | .goto i=>.goto i
 | .ret=>.ret
def YT:List (ETag × Shape)->Type
 | []=>Empty
 | [e]=>HL e.2.ts
 | e :: e2 :: es=>HL e.2.ts ⊕ YT (e2 :: es)
def Y6f:(es:List (ETag × Shape))->Ex->Fr->Mem->Option (YT es)
 | [],_,_,_=>none
 | [e],x,fr,m=>bif e.1.is x then e.2.getB fr m else none
 | e :: e2 :: es,x,fr,m=>bif e.1.is x then match e.2.getB fr m with
   | some y=>some (.inl y)
   | none=>none
  else match Y6f (e2 :: es) x fr m with
   | some y=>some (.inr y)
   | none=>none
def outK {R:Type}:(es:List (ETag × Shape))->YT es->(Ex->Fr->Mem->Nat->Option R)->Option R
 | [],_,_=>none
 | [e],y,k=>k e.1.ex (e.2.fr y) (e.2.mem y) e.2.bl.length
 | e :: e2 :: es,y,k=>match y with
  | .inl y=>k e.1.ex (e.2.fr y) (e.2.mem y) e.2.bl.length
  | .inr y=>outK (e2 :: es) y k
def rownL:List (Nat × Pat)->Fr->Mem->Nat->Fr × Mem × Nat
 | [],fr,m,N=>(fr,m,N)
 | (n,.sl _) :: l,fr,m,N=>match rown1 n fr m N with
  | (fr',m',N')=>rownL l fr' m' N'
 | _ :: l,fr,m,N=>rownL l fr m N
def Shape.getN (sh:Shape) (fr:Fr) (m:Mem) (N:Nat):Option (HL sh.ts):=match rownL sh.sl fr m N with
 | (fr',m',_)=>sh.getB fr' m'
theorem Ygc {X:Nat->Prop} {E:Env} {a:Act} {w:World}:∀ (l:List (Nat × Pat)) {g:G} {fr:Fr} {m:Mem},StOK g X E fr m a w ->
  ∃ g',g'.n=(rownL l fr m g.n).2.2/\StOK g' X E (rownL l fr m g.n).1 (rownL l fr m g.n).2.1 a w/\Ext0 E.pin g m w g' (rownL l fr m g.n).2.1 w
 | [],g,fr,m,h=>⟨g,rfl,h,Ext0.refl ..⟩
 | (n,p) :: l,g,fr,m,h=>by
  cases p with
  | sl j =>
   obtain ⟨g1,n1,h1,x1⟩:=Yga n h;simp only[rownL];rw[<- n1];obtain ⟨g2,n2,h2,x2⟩:=Ygc l h1;exact ⟨g2,n2,h2,x1.trans x2⟩
  | _=>exact Ygc l h
theorem Y85 {g:G} {X:Nat->Prop} {E:Env} {fr:Fr} {m:Mem} {a:Act} {w:World} (sh:Shape) {x:HL sh.ts} (h:sh.getN fr m g.n=some x) (hst:StOK g X E fr m a w) (hp:sh.pin=E.pin) :
  ∃ g',g'.n=sh.bl.length/\StOK g' X E (sh.fr x) (sh.mem x) a w/\Ext0 E.pin g m w g' (sh.mem x) w:=by
 obtain ⟨g1,_,h1,x1⟩:=Ygc sh.sl hst;have h:sh.getB (rownL sh.sl fr m g.n).1 (rownL sh.sl fr m g.n).2.1=some x:=h;obtain ⟨g2,n2,h2,x2⟩:=Y7x sh h h1 hp;exact ⟨g2,n2,h2,x1.trans x2⟩
def pieceSpec (sh:Shape) (es:List (ETag × Shape)) (F:HL sh.ts->Option (YT es)):CSpec where
 run fr m N k:=match sh.getN fr m N with
  | some x=>(F x).bind fun y=>outK es y k
  | none=>none
def loopK (sh:Shape) (es:List (ETag × Shape)):Ex->Fr->Mem->Nat->Option (HL sh.ts ⊕ YT es):=fun e fr m N=>match e with
 | .normal=>(sh.getN fr m N).map .inl
 | e=>(Y6f es e fr m).map .inr
def pinsOK (p:Nat):List (ETag × Shape)->Bool
 | []=>true
 | e :: es=>Nat.beq e.2.pin p && pinsOK p es
theorem tag_ok {t:ETag} {e:Ex} (h:t.is e=true):e=t.ex:=by
 cases t <;> cases e <;> first | rfl | cases h | (simp only[ETag.is] at h; rw[eb9 h]; rfl)
section
variable {P:Program} {C:Ctx} {X:Nat->Prop}
theorem Y6g {R:Type} {k:Ex->Fr->Mem->Nat->Option R} {r:R} {E:Env} {g:G} {m:Mem} {w:World}:∀ (es:List (ETag × Shape)),pinsOK E.pin es=true->∀ (y:YT es),outK es y k=some r->∀ (e':Ex) (e:Exit) (g1:G) (fr1:Fr) (m1:Mem) (a1:Act) (w1:World),Y6f es e' fr1 m1=some y->ExR g1 w1 (okB X g1 m1) e' e ->
  StOK g1 X E fr1 m1 a1 w1->Ext0 E.pin g m w g1 m1 w1->PostK X E g m w k r e a1 w1
 | [],hps,y,h,e',e,g1,fr1,m1,a1,w1,hg,hr,hst,hx=>by cases hg
 | [c],hps,y,h,e',e,g1,fr1,m1,a1,w1,hg,hr,hst,hx=>by
  have hp0:c.2.pin=E.pin:=by
   have hps:(Nat.beq c.2.pin E.pin && true)=true:=hps;rw[Bool.and_true] at hps; exact eb9 hps
  obtain ⟨h1,h2⟩:=Y2j hg;obtain ⟨g2,n2,hst2,hx2⟩:=Y7x c.2 h2 hst hp0;have ht:=tag_ok h1;subst ht;refine ⟨c.1.ex,_,_,g2,?_,by rw[n2]; exact h,hst2,hx.trans hx2⟩;generalize c.1=t at *;cases t <;> exact hr
 | c :: c2 :: es,hps,y,h,e',e,g1,fr1,m1,a1,w1,hg,hr,hst,hx=>by
  have hps:(Nat.beq c.2.pin E.pin && pinsOK E.pin (c2 :: es))=true:=hps;rw[ba9] at hps;have hp0:c.2.pin=E.pin:=eb9 hps.1;simp only[Y6f] at hg;cases ht:c.1.is e' with
  | true =>
   rw[ht] at hg;simp only[cond_true] at hg;split at hg
   ·rename_i z h2;cases hg;obtain ⟨g2,n2,hst2,hx2⟩:=Y7x c.2 h2 hst hp0;have ht:=tag_ok ht;subst ht;refine ⟨c.1.ex,_,_,g2,?_,by rw[n2]; exact h,hst2,hx.trans hx2⟩;generalize c.1=t at *;cases t <;> exact hr
   ·cases hg
  | false =>
   rw[ht] at hg;simp only[cond_false] at hg;split at hg
   ·rename_i z h2;cases hg;exact Y6g (c2 :: es) hps.2 z h e' e g1 fr1 m1 a1 w1 h2 hr hst hx
   ·cases hg
theorem loop_sound (hC:CtxOK P C) {c:Code} (hS:SumOK P C c) (sh:Shape) (es:List (ETag × Shape)) (hp:sh.pin=C.pin) (hps:pinsOK C.pin es=true) (f:HL sh.ts->Option (HL sh.ts ⊕ YT es))
  (heq:∀ x,exec C c (sh.fr x) (sh.mem x) sh.bl.length (loopK sh es)=f x):CSound P C.ek (.loop c) (pieceSpec sh es (loop f)):=by
 intro R fr m g k r X E a w hE h hst;have hp:sh.pin=E.pin:=hp.trans hE.pin.symm;have hps:pinsOK E.pin es=true:=by rw[hE.pin]; exact hps
 simp only[pieceSpec] at h;split at h
 ·rename_i x hx;obtain ⟨g1,n1,hst1,hx1⟩:=Y85 sh hx hst hp;cases hF:loop f x with
  | none=>rw[hF] at h; cases h
  | some y =>
   rw[hF] at h;have h:outK es y k=some r:=h;obtain ⟨n,hn⟩:=Yat.1 hF
   have key:∀ (n:Nat) (x:HL sh.ts) (g1:G) (a1:Act) (w1:World),iter f n x=some y->g1.n=sh.bl.length->StOK g1 X E (sh.fr x) (sh.mem x) a1 w1->Ext0 E.pin g m w g1 (sh.mem x) w1 ->
     Code.roundsIn (FR E.rd) 0 P c (PostK X E g m w k r) n a1 w1:=by
    intro n;induction n with
    | zero=>intro x g1 a1 w1 hn; cases hn
    | succ n ih =>
     intro x g1 a1 w1 hn n1 hst1 hx1;rw[roundsIn_succ];simp only[iter] at hn;have he:=heq x;rw[<- n1] at he;cases hfx:f x with
     | none=>rw[hfx] at hn; cases hn
     | some z =>
      rw[hfx] at he hn;refine wpIn_mono (Y6e hC hE c hS _ _ g1 _ z X a1 w1 he hst1) ?_;rintro e a2 w2 ⟨e',fr2,m2,g2,q1,q2,q3,q4⟩
      have hK:(e'=.normal/\∃ x',sh.getN fr2 m2 g2.n=some x'/\z=.inl x') \/ (e' ≠ .normal/\∃ y',Y6f es e' fr2 m2=some y'/\z=.inr y'):=by
       have hopt:∀ {A B:Type} {o:Option A} {f:A->B} {b:B},o.map f=some b->∃ x,o=some x/\b=f x:=by
        intro A B o f b ho;cases o with
        | none=>cases ho
        | some x=>exact ⟨x,rfl,(oi9 ho).symm⟩
       cases e' with
       | normal=>exact .inl ⟨rfl,hopt q2⟩
       | exit i=>exact .inr ⟨by simp,hopt q2⟩
       | goto i=>exact .inr ⟨by simp,hopt q2⟩
       | ret=>exact .inr ⟨by simp,hopt q2⟩
       | panic v=>exact .inr ⟨by simp,hopt q2⟩
      rcases hK with ⟨rfl,x',hx',rfl⟩ | ⟨hne,y',hy',rfl⟩
      ·cases q1;obtain ⟨g3,n3,hst3,hx3⟩:=Y85 sh hx' q3 hp;exact ih x' g3 a2 w2 hn n3 hst3 ((hx1.trans q4).trans hx3)
      ·have hyy:y'=y:=oi9 hn;subst hyy;have hp:=Y6g es hps y' h e' e g2 fr2 m2 a2 w2 hy' q1 q3 (hx1.trans q4);cases e' with
       | normal=>exact absurd rfl hne
       | exit i=>cases q1; exact hp
       | goto i=>cases q1; exact hp
       | ret=>cases q1; exact hp
       | panic v=>obtain ⟨cv,rfl,_⟩:=q1; exact hp
   exact wpIn_loop_rounds n (key n x g1 a w hn n1 hst1 hx1)
 ·cases h
end
end Go.Proofs.YtifbgkikkiallaaGreat.VX
namespace Go.Proofs.YtifbgkikkiallaaGreat.VX
def AV.ren (ρ:Nat->Nat):AV->AV
 | .d t x=>.d t x
 | .pr a b=>.pr (a.ren ρ) (b.ren ρ)
 | .one a=>.one (a.ren ρ)
 | .nl=>.nl
 | .sl τ=>.sl (ρ τ)
 | .vw τ lo n sz=>.vw (ρ τ) lo n sz
 | .ptr τ p=>.ptr (ρ τ) p
 | .va τ p n sz=>.va (ρ τ) p n sz
 | .nilp=>.nilp
 | .pv t x=>.pv t x
 | .mp τ=>.mp (ρ τ)
 | .nilm=>.nilm
 | .fn f a b=>.fn f (a.ren ρ) (b.ren ρ)
 | .nilf=>.nilf
 | .ifc t v=>.ifc t (v.ren ρ)
 | .yl τ=>.yl (ρ τ)
 | .nili=>.nili
 | .tu v=>.tu (v.ren ρ)
 | .nil=>.nil
 | .cons a b=>.cons (a.ren ρ) (b.ren ρ)
 | .dead=>.dead
def Blk.ren (ρ:Nat->Nat):Blk->Blk
 | .var v=>.var (v.ren ρ)
 | .lp id sl v t=>.lp id sl (v.ren ρ) t
 | .fm ks v=>.fm ks (v.ren ρ)
 | .row t xs=>.row t xs
 | .frz t xs=>.frz t xs
 | .mp k v m=>.mp k v m
 | .mo k t l none=>.mo k t l none
 | .mo k t l (some (σ,j))=>.mo k t l (some (ρ σ,j))
 | .gone=>.gone
def renMem (ρ:Nat->Nat):Mem->Mem
 | []=>[]
 | (j,B) :: l=>(ρ j,B.ren ρ) :: renMem ρ l
def rho (p:Nat) (as:Asg) (N j:Nat):Nat:=bif Nat.blt j p then (match alook j as with
 | some (some τ)=>τ
 | _=>N+j) else N+j
def dropA (as:Asg):Nat->Nat->Mem
 | _,0=>[]
 | j,n+1=>match alook j as with
  | some (some τ)=>(τ,.gone) :: dropA as (j+1) n
  | _=>dropA as (j+1) n
def outAV (fr:Fr):AV:=match fr with
 | [(_,v)]=>v
 | fr=>.tu (avList (fr.map fun p=>p.2))
def Spec.shp (sh ro:Shape) (F:HL sh.ts->Option (HL ro.ts)):Spec where
 run args m N k kp:=bif Nat.beq args.length sh.sl.length then match sh.getA (initFr 0 args) m with
  | some (x,as)=>(F x).bind fun y=>k ((outAV (ro.fr y)).ren (rho ro.pin as N)) (renMem (rho ro.pin as N) (ro.mem y)++(dropA as ro.pin (sh.bl.length - ro.pin)++frzL (sh.fzs (initFr 0 args) m) m)) (N+ro.bl.length)
  | none=>none else none
def retS (C:Ctx) (rv:List ResultVar) (ro:Shape):Ex->Fr->Mem->Nat->Option (HL ro.ts)
 | .normal,fr,m,_=>match Yfw C fr m rv with
  | some l=>bif Nat.beq l.length ro.sl.length then ro.get (initFr 0 l) m else none
  | none=>none
 | .ret,fr,m,_=>match Yfw C fr m rv with
  | some l=>bif Nat.beq l.length ro.sl.length then ro.get (initFr 0 l) m else none
  | none=>none
 | _,_,_,_=>none
def seqK:Nat->List (Nat × Pat)->Bool
 | _,[]=>true
 | n,(k,_) :: l=>Nat.beq k n && seqK (n+1) l
section
variable {ρ:Nat->Nat}
theorem Yfp:∀ (v:AV),(v.ren ρ).isAgg=v.isAgg
 | .d t x=>rfl | .pr a b=>rfl | .one a=>rfl | .nl=>rfl | .sl τ=>rfl | .vw _ _ _ _=>rfl | .va _ _ _ _=>rfl | .ptr _ _=>rfl | .nilp=>rfl | .pv _ _=>rfl | .mp _=>rfl | .nilm=>rfl
 | .fn _ _ _=>rfl | .nilf=>rfl | .ifc _ _=>rfl | .yl _=>rfl | .nili=>rfl | .tu _=>rfl | .nil=>rfl | .cons _ _=>rfl | .dead=>rfl
theorem Yfs:∀ (v:AV),(v.ren ρ).sto=v.sto
 | .pr a b=>by simp only[AV.ren,AV.sto,Yfs a,Yfs b]
 | .one a=>by simp only[AV.ren,AV.sto,Yfs a]
 | .d t x=>rfl | .nl=>rfl | .sl τ=>rfl | .vw _ _ _ _=>rfl | .va _ _ _ _=>rfl | .ptr _ _=>rfl | .nilp=>rfl | .pv _ _=>rfl | .mp _=>rfl | .nilm=>rfl
 | .fn _ _ _=>rfl | .nilf=>rfl | .ifc _ _=>rfl | .yl _=>rfl | .nili=>rfl | .tu _=>rfl | .nil=>rfl | .cons _ _=>rfl | .dead=>rfl
theorem Yfr (B:Blk):(B.ren ρ).live=B.live:=by
 cases B with
 | mo kt t l h=>cases h <;> rfl
 | _=>rfl
theorem Yfq (B:Blk) (i:Nat):(B.ren ρ).has i=B.has i:=by
 cases B with
 | mo kt t l h=>cases h <;> rfl
 | _=>rfl
variable {g g':G} {w:World} {ok ok':Nat->Prop} (hρ:∀ j,g.dom j->g'.dom (ρ j)/\g'.loc (ρ j)=g.loc j) (hH:Holds w ok w ok')
include hρ hH
mutual
theorem RC_ren:∀ (v:AV) (cs:List Value),RC g w ok v cs->RC g' w ok' (v.ren ρ) cs
 | .d t x,cs,h1=>Y17 hH t x cs h1
 | .pr a b,cs,⟨c1,c2,e,h1,h2⟩=>⟨c1,c2,e,RC_ren a c1 h1,RC_ren b c2 h2⟩
 | .one a,cs,h1=>RC_ren a cs h1
 | .nl,cs,h1=>h1
 | .sl τ,cs,⟨h1,h2⟩=>⟨(hρ τ h1).1,by rw[(hρ τ h1).2]; exact h2⟩
 | .vw τ lo n sz,cs,⟨h1,v,h2,h3⟩=>⟨(hρ τ h1).1,v,h2,by rw[(hρ τ h1).2]; exact h3⟩
 | .ptr τ p,cs,⟨h1,h2,h3⟩=>⟨(hρ τ h1).1,by rw[(hρ τ h1).2]; exact h2,by rw[(hρ τ h1).2]; exact h3⟩
 | .va τ p n sz,cs,⟨h1,h2,h3⟩=>⟨(hρ τ h1).1,by rw[(hρ τ h1).2]; exact h2,by rw[(hρ τ h1).2]; exact h3⟩
 | .nilp,cs,h1=>h1
 | .pv t x,cs,⟨ad,cells,e,h1,h2⟩=>⟨ad,cells,e,Y17 hH t x cells h1,Y1b hH h2⟩
 | .mp τ,cs,⟨h1,h2⟩=>⟨(hρ τ h1).1,by rw[(hρ τ h1).2]; exact h2⟩
 | .nilm,cs,h1=>h1
 | .fn f a b,cs,⟨fs,ks,h1,h2,e⟩=>⟨fs,ks,RL_ren a fs h1,RL_ren b ks h2,e⟩
 | .nilf,cs,h1=>h1
 | .ifc t v,cs,⟨cv,e,h1,h2⟩=>⟨cv,e,fun ha=>let ⟨ds,e,h3⟩:=h1 (by rw[<- Yfp]; exact ha); ⟨ds,e,RC_ren v ds h3⟩,fun ha=>RC_ren v [cv] (h2 (by rw[<- Yfp]; exact ha))⟩
 | .nili,cs,h1=>h1
 | .yl τ,cs,⟨h1,h2⟩=>⟨(hρ τ h1).1,by rw[(hρ τ h1).2]; exact h2⟩
 | .tu vs,cs,⟨l,h1,e⟩=>⟨l,RL_ren vs l h1,e⟩
 | .nil,_,h1=>h1
 | .cons _ _,_,h1=>h1
 | .dead,cs,h1=>h1
theorem RL_ren:∀ (v:AV) (l:List Value),RL g w ok v l->RL g' w ok' (v.ren ρ) l
 | .nil,l,h1=>have _:=hρ; have _:=hH; h1
 | .cons a b,l,⟨v,l',e,⟨h1,h2⟩,h3⟩=>⟨v,l',e,⟨fun ha=>let ⟨ds,e,h4⟩:=h1 (by rw[<- Yfp]; exact ha); ⟨ds,e,RC_ren a ds h4⟩,fun ha=>RC_ren a [v] (h2 (by rw[<- Yfp]; exact ha))⟩,RL_ren b l' h3⟩
 | .d _ _,_,h1=>h1.elim
 | .pr _ _,_,h1=>h1.elim
 | .one _,_,h1=>h1.elim
 | .nl,_,h1=>h1.elim
 | .sl _,_,h1=>h1.elim
 | .vw _ _ _ _,_,h1=>h1.elim
 | .ptr _ _,_,h1=>h1.elim
 | .va _ _ _ _,_,h1=>h1.elim
 | .nilp,_,h1=>h1.elim
 | .pv _ _,_,h1=>h1.elim
 | .mp _,_,h1=>h1.elim
 | .nilm,_,h1=>h1.elim
 | .fn _ _ _,_,h1=>h1.elim
 | .nilf,_,h1=>h1.elim
 | .ifc _ _,_,h1=>h1.elim
 | .nili,_,h1=>h1.elim
 | .yl _,_,h1=>h1.elim
 | .tu _,_,h1=>h1.elim
 | .dead,_,h1=>h1.elim
end
theorem RV_ren {v:AV} {cv:Value} (h:RV g w ok v cv):RV g' w ok' (v.ren ρ) cv :=
 ⟨fun ha=>let ⟨ds,e,h2⟩:=h.1 (by rw[<- Yfp]; exact ha); ⟨ds,e,RC_ren hρ hH v ds h2⟩,fun ha=>RC_ren hρ hH v _ (h.2 (by rw[<- Yfp]; exact ha))⟩
theorem Y2 (hrt:g'.rt=g.rt) {j:Nat} (hj:g.dom j) (hs:g'.sub (ρ j)=g.sub j) {B:Blk} (hB:BOK g w ok j B):BOK g' w ok' (ρ j) (B.ren ρ):=by
 have hl:=(hρ j hj).2;cases B with
 | var v =>
  obtain ⟨h1,h2,h5,c,e,h3,h4⟩:=hB;exact ⟨by rw[hl]; exact h1,by rw[Yfs]; exact h2,by rw[hl]; exact h5,c,e,by rw[hl]; exact h3,RC_ren hρ hH v _ h4⟩
 | row t xs =>
  obtain ⟨h1,h2,h0⟩:=hB;refine ⟨by rw[hl]; exact h1,by rw[hl]; exact h2,?_⟩;rcases h0 with h0 | ⟨h7,c,e,cells,h3,h4,h5,h6⟩
  ·left; rw[hl]; exact h0
  ·exact .inr ⟨by rw[hl]; exact h7,c,e,cells,by rw[hl]; exact h3,Yz (fun x cs=>Y17 hH t x cs) _ _ h4,by rw[hl]; exact h5,by rw[hl]; exact h6⟩
 | frz t xs=>show Rd _ _ _ _ _; rw[hl]; exact Y17 hH _ _ _ hB
 | mp kt vt l =>
  obtain ⟨h4,es,h1,h2,h3⟩:=hB;exact ⟨by rw[hl]; exact h4,es,by rw[hl]; exact h1,h2,fun i e p he hp=>Y5 hH (h3 i e p he hp)⟩
 | lp id sl sv tag =>
  obtain ⟨h4,rt,fn,tmps,D,st,pe,vs,h1,h2,h3,h5,h6,h7⟩:=hB;exact ⟨by rw[hl]; exact h4,rt,fn,tmps,D,st,pe,vs,by rw[hrt]; exact h1,by rw[hl]; exact h2,h3,RL_ren hρ hH sv vs h5,h6,h7⟩
 | fm ks vs =>
  obtain ⟨h4,es,cvs,h1,h2,h3,h5,h6⟩:=hB;exact ⟨by rw[hl]; exact h4,es,cvs,by rw[hl]; exact h1,h2,h3,RL_ren hρ hH vs cvs h5,h6⟩
 | mo kt t l hh =>
  obtain ⟨h4,es,h1,h2,h3,h5⟩:=hB
  have hm:∀ i e p,es[i]?=some e->l[i]?=some p->MOK g' w ok' (ρ j) kt t ((Blk.mo kt t l hh).has i) i e p:=fun i e p he hp=>by
   obtain ⟨q1,⟨g0,q2⟩,q3⟩:=h3 i e p he hp;refine ⟨q1,⟨g0,Yt (GExt.refl g0) hH q2⟩,fun q=>?_⟩;rw[hs];exact ⟨(q3 q).1,Y19 hH (fun _=>rfl) (q3 q).2⟩
  cases hh with
  | none=>exact ⟨by rw[hl]; exact h4,es,by rw[hl]; exact h1,h2,hm,fun _ _ e=>by cases e⟩
  | some q =>
   obtain ⟨σ,c⟩:=q;refine ⟨by rw[hl]; exact h4,es,by rw[hl]; exact h1,h2,hm,fun a b e=>?_⟩;cases e;obtain ⟨k1,k2,k3⟩:=h5 σ c rfl;exact ⟨k1,(hρ σ k2).1,fun e he=>by rw[(hρ σ k2).2]; exact k3 e he⟩
 | gone=>trivial
end
section dom
variable {g:G} {w:World} {ok:Nat->Prop} {m:Mem}
def AsD (g:G) (as:Asg):Prop:=∀ j τ,alook j as=some (some τ)->g.dom τ
theorem Y24 {j:Nat} {v:Option Nat} {as as':Asg} (h:asgn j v as=some as') (hd:AsD g as) (hv:∀ τ,v=some τ->g.dom τ):AsD g as':=by
 unfold asgn at h;cases hl:alook j as with
 | none =>
  rw[hl] at h; cases h;intro i τ e;rw[Y1k] at e;split at e
  ·exact hv τ (oi9 e)
  ·exact hd i τ e
 | some u =>
  rw[hl] at h;cases (Y2j h).2;exact hd
theorem mt_dom:∀ (p:Pat) (v:AV) (as:Asg) (ds:List Dyn) (as':Asg),p.mt m v as=some (ds,as')->AsD g as->((∃ cs,RC g w ok v cs) \/ ∃ l,RL g w ok v l)->AsD g as'
 | .hole t,v,as,ds,as',h,hd,hr=>by simp only[Pat.mt] at h; split at h <;> cases h; exact hd
 | .hpv t,v,as,ds,as',h,hd,hr=>by
  cases v <;> first | (cases h; done) | skip
  simp only[Pat.mt] at h; split at h <;> cases h; exact hd
 | .pr a b,v,as,ds,as',h,hd,hr=>by
  simp only[Pat.mt] at h;split at h
  ·rename_i u u' hs
   have hr2:(∃ cs,RC g w ok u cs)/\∃ cs,RC g w ok u' cs:=by
    rcases hr with ⟨cs,hr⟩ | ⟨l,hr⟩
    ·obtain ⟨c1,c2,_,e1,e2⟩:=Yj5 hs hr; exact ⟨⟨c1,e1⟩,⟨c2,e2⟩⟩
    ·unfold AV.split at hs; split at hs <;> first | exact hr.elim | cases hs
   split at h
   ·rename_i h1;split at h
    ·rename_i h2; cases h;exact mt_dom b _ _ _ _ h2 (mt_dom a _ _ _ _ h1 hd (.inl hr2.1)) (.inl hr2.2)
    ·cases h
   ·cases h
  ·cases h
 | .one a,v,as,ds,as',h,hd,hr=>by
  simp only[Pat.mt] at h;split at h
  ·rename_i u hs;refine mt_dom a _ _ _ _ h hd ?_;simp only[AV.sel] at hs;split at hs
   ·cases hs;rcases hr with ⟨cs,hr⟩ | ⟨l,hr⟩
    ·exact .inl ⟨cs,hr⟩
    ·exact hr.elim
   ·cases hs;rcases hr with ⟨cs,hr⟩ | ⟨l,hr⟩
    ·exact .inl ⟨cs,hr⟩
    ·exact hr.elim
   ·cases hs
  ·cases h
 | .nl,v,as,ds,as',h,hd,hr=>by cases v <;> cases h; exact hd
 | .sl j,v,as,ds,as',h,hd,hr=>by
  cases v with
  | sl τ =>
   rcases hr with ⟨cs,hr⟩ | ⟨l,hr⟩
   ·exact Y24 (Ycz h).2 hd (fun τ' e=>by cases e; exact hr.1)
   ·exact hr.elim
  | nl=>exact Y24 (Ycz h).2 hd (fun τ' e=>by cases e)
  | _=>cases h
 | .ptr j p,v,as,ds,as',h,hd,hr=>by
  cases v with
  | ptr τ q =>
   simp only[Pat.mt] at h;rcases hr with ⟨cs,hr⟩ | ⟨l,hr⟩
   ·exact Y24 (Y5q h).2 hd (fun τ' e=>by cases e; exact hr.1)
   ·exact hr.elim
  | _=>cases h
 | .va j p n sz,v,as,ds,as',h,hd,hr=>by
  cases v with
  | va τ q n' sz' =>
   simp only[Pat.mt] at h;rcases hr with ⟨cs,hr⟩ | ⟨l,hr⟩
   ·exact Y24 (Y5q (Y2j h).2).2 hd (fun τ' e=>by cases e; exact hr.1)
   ·exact hr.elim
  | _=>cases h
 | .nilp,v,as,ds,as',h,hd,hr=>by cases v <;> cases h; exact hd
 | .mp j,v,as,ds,as',h,hd,hr=>by
  cases v with
  | mp τ =>
   rcases hr with ⟨cs,hr⟩ | ⟨l,hr⟩
   ·exact Y24 (Ycz h).2 hd (fun τ' e=>by cases e; exact hr.1)
   ·exact hr.elim
  | _=>cases h
 | .nilm,v,as,ds,as',h,hd,hr=>by cases v <;> cases h; exact hd
 | .fn f a b,v,as,ds,as',h,hd,hr=>by
  cases v with
  | fn f' u u' =>
   simp only[Pat.mt] at h;have h:=(Y2j h).2
   have hr2:(∃ l,RL g w ok u l)/\∃ l,RL g w ok u' l:=by
    rcases hr with ⟨cs,hr⟩ | ⟨l,hr⟩
    ·obtain ⟨fs,ks,e1,e2,_⟩:=hr; exact ⟨⟨fs,e1⟩,⟨ks,e2⟩⟩
    ·exact hr.elim
   split at h
   ·rename_i h1;split at h
    ·rename_i h2; cases h;exact mt_dom b _ _ _ _ h2 (mt_dom a _ _ _ _ h1 hd (.inr hr2.1)) (.inr hr2.2)
    ·cases h
   ·cases h
  | _=>cases h
 | .nilf,v,as,ds,as',h,hd,hr=>by cases v <;> cases h; exact hd
 | .nili,v,as,ds,as',h,hd,hr=>by cases v <;> cases h; exact hd
 | .yl j,v,as,ds,as',h,hd,hr=>by
  cases v with
  | yl τ =>
   rcases hr with ⟨cs,hr⟩ | ⟨l,hr⟩
   ·exact Y24 (Ycz h).2 hd (fun τ' e=>by cases e; exact hr.1)
   ·exact hr.elim
  | _=>cases h
 | .ifc t a,v,as,ds,as',h,hd,hr=>by
  cases v with
  | ifc t' u =>
   simp only[Pat.mt] at h;refine mt_dom a _ _ _ _ (Y2j h).2 hd ?_;rcases hr with ⟨cs,hr⟩ | ⟨l,hr⟩
   ·obtain ⟨cv,_,e1,e2⟩:=hr;cases ha:u.isAgg with
    | true=>obtain ⟨dd,_,e3⟩:=e1 ha; exact .inl ⟨dd,e3⟩
    | false=>exact .inl ⟨_,e2 ha⟩
   ·exact hr.elim
  | _=>cases h
 | .nil,v,as,ds,as',h,hd,hr=>by cases v <;> cases h; exact hd
 | .cons a b,v,as,ds,as',h,hd,hr=>by
  cases v with
  | cons u u' =>
   simp only[Pat.mt] at h
   have hr2:(∃ cs,RC g w ok u cs)/\∃ l,RL g w ok u' l:=by
    rcases hr with ⟨cs,hr⟩ | ⟨l,hr⟩
    ·exact hr.elim
    ·obtain ⟨x,l',_,⟨e1,e2⟩,e3⟩:=hr;refine ⟨?_,⟨l',e3⟩⟩;cases ha:u.isAgg with
     | true=>obtain ⟨dd,_,e4⟩:=e1 ha; exact ⟨dd,e4⟩
     | false=>exact ⟨_,e2 ha⟩
   split at h
   ·rename_i h1;split at h
    ·rename_i h2; cases h;exact mt_dom b _ _ _ _ h2 (mt_dom a _ _ _ _ h1 hd (.inl hr2.1)) (.inr hr2.2)
    ·cases h
   ·cases h
  | _=>cases h
 | .dead,v,as,ds,as',h,hd,hr=>by
  simp only[Pat.mt] at h;cases (Y2j h).2; exact hd
theorem Yv {v:AV} {cv:Value} (h:RV g w ok v cv):∃ cs,RC g w ok v cs:=by
 cases ha:v.isAgg with
 | true=>obtain ⟨dd,_,e⟩:=h.1 ha; exact ⟨dd,e⟩
 | false=>exact ⟨_,h.2 ha⟩
theorem Yim {fr:Fr} {tmps:Array Value} (hfr:FrOK g w ok fr tmps):∀ (l:List (Nat × Pat)) (as:Asg) (ds:List Dyn) (as':Asg),Yik m l fr as=some (ds,as')->AsD g as->AsD g as'
 | [],as,ds,as',h,hd=>by cases h; exact hd
 | (n,p) :: l,as,ds,as',h,hd=>by
  simp only[Yik] at h;split at h
  ·rename_i h1;split at h
   ·rename_i h2; cases h;exact Yim hfr l _ _ _ h2 (mt_dom p _ _ _ _ h1 hd (.inl (Yv (hfr n))))
   ·cases h
  ·cases h
theorem Y2s (hf:∀ τ,BOK g w ok τ (mget τ m)):∀ (l:List BPat) (j:Nat) (as:Asg) (ds:List Dyn) (as':Asg),blksMt m l j as=some (ds,as')->AsD g as->AsD g as'
 | [],j,as,ds,as',h,hd=>by cases h; exact hd
 | b :: l,j,as,ds,as',h,hd=>by
  simp only[blksMt] at h;split at h
  ·rename_i τ hτ;split at h
   ·rename_i h1;split at h
    ·rename_i h2; cases h;refine Y2s hf l _ _ _ _ h2 ?_;have hB:=hf τ;cases b with
     | var p =>
      cases hm:mget τ m with
      | var v =>
       rw[hm] at h1 hB;obtain ⟨_,_,_,c,e,_,hR⟩:=hB;exact mt_dom p _ _ _ _ (Y2j h1).2 hd (.inl ⟨_,hR⟩)
      | _=>rw[hm] at h1; cases h1
     | lp id sl p =>
      cases hm:mget τ m with
      | lp id' sl' sv tag =>
       rw[hm] at h1 hB;obtain ⟨_,rt,fn,tmps,D,st,pe,vs,_,_,_,hR,_⟩:=hB;exact mt_dom p _ _ _ _ (Y2j h1).2 hd (.inr ⟨_,hR⟩)
      | _=>rw[hm] at h1; cases h1
     | lpt id sl p =>
      cases hm:mget τ m with
      | lp id' sl' sv tag =>
       rw[hm] at h1 hB;obtain ⟨_,rt,fn,tmps,D,st,pe,vs,_,_,_,hR,_⟩:=hB;have h1:=(Y2j h1).2;split at h1
       ·rename_i h3; cases h1;exact mt_dom p _ _ _ _ h3 hd (.inr ⟨_,hR⟩)
       ·cases h1
      | _=>rw[hm] at h1; cases h1
     | fm ks p =>
      have hB:=hf τ;cases hm:mget τ m with
      | fm ks' vs =>
       rw[hm] at h1 hB;obtain ⟨_,es,cvs,_,_,_,hR,_⟩:=hB;have h1:=(Y2j h1).2;exact mt_dom p _ _ _ _ h1 hd (.inr ⟨_,hR⟩)
      | _=>rw[hm] at h1; cases h1
     | row t=>cases hm:mget τ m <;> rw[hm] at h1 <;> first | (cases h1; done) | (simp only[BPat.mt] at h1; split at h1 <;> cases h1; exact hd)
     | frz t=>cases hm:mget τ m <;> rw[hm] at h1 <;> first | (cases h1; done) | (simp only[BPat.mt] at h1; split at h1 <;> cases h1; exact hd)
     | mp kt vt=>cases hm:mget τ m <;> rw[hm] at h1 <;> first | (cases h1; done) | (simp only[BPat.mt] at h1; split at h1 <;> cases h1; exact hd)
     | mo kt t =>
      cases hm:mget τ m with
      | mo k' t' l hh =>
       rw[hm] at h1;cases hh with
       | some q=>cases h1
       | none=>simp only[BPat.mt] at h1; split at h1 <;> cases h1; exact hd
      | _=>rw[hm] at h1; cases h1
     | gone=>cases h1; exact hd
    ·cases h
   ·cases h
  ·rename_i hτ;split at h
   ·split at h
    ·rename_i h2; cases h;exact Y2s hf l _ _ _ _ h2 hd
    ·cases h
   ·cases h
  ·cases h
theorem Y86 {X:Nat->Prop} {fr:Fr} {tmps:Array Value} (sh:Shape) {x:HL sh.ts} {as:Asg} (h:sh.get1 fr m=some (x,as)) (hI:Inv g X m w) (hfr:FrOK g w (okB X g m) fr tmps) (hp:sh.pin=0):AsD g as:=by
 unfold Shape.get1 at h;split at h
 ·rename_i d1 as1 h1;split at h
  ·rename_i d2 as2 h2;have h:=(Y2j h).2;split at h
   ·cases h;refine Y2s (fun τ=>hI.ok τ) _ _ _ _ _ h2 (Yim hfr _ _ _ _ h1 ?_);rw[hp]; intro j τ e; cases e
   ·cases h
  ·cases h
 ·cases h
end dom
section mem
variable {ρ:Nat->Nat}
theorem Yfn {n:Nat} (hinj:∀ i j,i < n->j < n->ρ i=ρ j->i=j):∀ (l:List BPat) (j0:Nat) (d:List Dyn) (m:Mem),j0+l.length <= n->∀ i,j0 <= i->i < j0+l.length ->
  mget (ρ i) (renMem ρ (Y2q l j0 d).1++m)=(mget i (Y2q l j0 d).1).ren ρ
 | [],j0,d,m,hn,i,h1,h2=>by simp at h2; omega
 | b :: l,j0,d,m,hn,i,h1,h2=>by
  simp only[List.length_cons] at hn h2;show mget (ρ i) ((ρ j0,(b.fill d).1.ren ρ) :: (renMem ρ (Y2q l (j0+1) (b.fill d).2).1++m))=(mget i ((j0,(b.fill d).1) :: (Y2q l (j0+1) (b.fill d).2).1)).ren ρ;rw[Ybs,Ybs];by_cases e:j0=i
  ·subst e; rw[if_pos rfl,if_pos rfl]
  ·rw[if_neg e,if_neg (fun h=>e (hinj _ _ (by omega) (by omega) h))];exact Yfn hinj l (j0+1) _ m (by omega) i (by omega) (by omega)
theorem Yfo {σ:Nat}:∀ (l:List BPat) (j0:Nat) (d:List Dyn) (m:Mem),(∀ i,j0 <= i->i < j0+l.length->ρ i ≠ σ)->mget σ (renMem ρ (Y2q l j0 d).1++m)=mget σ m
 | [],j0,d,m,h=>rfl
 | b :: l,j0,d,m,h=>by
  show mget σ ((ρ j0,(b.fill d).1.ren ρ) :: (renMem ρ (Y2q l (j0+1) (b.fill d).2).1++m))=mget σ m;rw[Ybs,if_neg (h j0 (Nat.le_refl _) (by simp))];exact Yfo l (j0+1) _ m (fun i h1 h2=>h i (by omega) (by simp; omega))
theorem Y5k (as:Asg) (m:Mem) (σ:Nat):∀ (n j:Nat),(mget σ (dropA as j n++m)=.gone/\∃ i,j <= i/\i < j+n/\alook i as=some (some σ)) \/ (mget σ (dropA as j n++m)=mget σ m/\∀ i,j <= i->i < j+n->alook i as ≠ some (some σ))
 | 0,j=>.inr ⟨rfl,fun i h1 h2=>by omega⟩
 | n+1,j=>by
  have ih:=Y5k as m σ n (j+1);have step:dropA as j (n+1)=(match alook j as with | some (some τ)=>(τ,.gone) :: dropA as (j+1) n | _=>dropA as (j+1) n):=rfl;rw[step];split
  ·rename_i τ hτ;rw[List.cons_append,Ybs];split
   ·rename_i e; subst e; exact .inl ⟨rfl,j,Nat.le_refl _,by omega,hτ⟩
   ·rename_i hne;rcases ih with ⟨h1,i,h2,h3,h4⟩ | ⟨h1,h2⟩
    ·exact .inl ⟨h1,i,by omega,by omega,h4⟩
    ·refine .inr ⟨h1,fun i q1 q2 e=>?_⟩;by_cases ei:i=j
     ·subst ei; rw[hτ] at e; cases e; exact hne rfl
     ·exact h2 i (by omega) (by omega) e
  ·rename_i hn;rcases ih with ⟨h1,i,h2,h3,h4⟩ | ⟨h1,h2⟩
   ·exact .inl ⟨h1,i,by omega,by omega,h4⟩
   ·refine .inr ⟨h1,fun i q1 q2 e=>?_⟩;by_cases ei:i=j
    ·subst ei; exact hn _ e
    ·exact h2 i (by omega) (by omega) e
end mem
def outX (X:Nat->Prop) (g:G) (m:Mem) (as:Asg) (b:Nat):Prop:=X b \/ ∃ τ,(∀ j,alook j as ≠ some (some τ))/\OwnT g m τ b
theorem Ya3 {ro:Shape} {g:G} {X:Nat->Prop} {m:Mem} {w:World} (hI:Inv g X m w) {sh:Shape} {x:HL sh.ts} {as:Asg} (hT:Taken g X m w (outX X g m as) sh x as) (hD:AsD g as)
  {g2:G} {m2:Mem} {w2:World} (hI2:Inv g2 (outX X g m as) m2 w2) {p:Nat} (hps:p <= sh.bl.length) (hpo:p <= ro.bl.length) (hx:Ext0 p (asgG g as sh.bl.length) (sh.mem x) w g2 m2 w2)
  {y:HL ro.ts} {as3:Asg} {fr2:Fr} {tmps2:Array Value} (hfr2:FrOK g2 w2 (okB (outX X g m as) g2 m2) fr2 tmps2) (hget:ro.get1 fr2 m2=some (y,as3)) (hpin:ro.pin=p) :
  ∃ g4,g4.n=g.n+ro.bl.length/\Inv g4 X (renMem (rho p as g.n) (ro.mem y)++(dropA as p (sh.bl.length - p)++m)) w2/\Ext g m w g4 (renMem (rho p as g.n) (ro.mem y)++(dropA as p (sh.bl.length - p)++m)) w2 /\
   ∀ t,RV g4 w2 (okB X g4 (renMem (rho p as g.n) (ro.mem y)++(dropA as p (sh.bl.length - p)++m))) ((fget t (ro.fr y)).ren (rho p as g.n)) (tmps2.getD t undef):=by
 obtain ⟨hT3,hfr3⟩:=Y87 ro hget hI2 hfr2 (outX X g m as) (fun _ h=>h) (fun _ h=>.inl h)
 let g1:=asgG g as sh.bl.length
 let g3:=asgG g2 as3 ro.bl.length
 have hloc3:∀ j,j < p->g3.loc j=g1.loc j:=fun j hj=>by
  have h1:g3.loc j=g2.loc j:=Y22 (hT3.pins j (by rw[hpin]; exact hj));rw[h1,(hx.pin j hj (show j < sh.bl.length by omega)).2]
 have hρs:∀ j τ,j < p->alook j as=some (some τ)->rho p as g.n j=τ:=fun j τ hj e=>by unfold rho; rw[show Nat.blt j p=true by simpa using hj,e]; rfl
 have hρn:∀ j,(j < p->∀ τ,alook j as ≠ some (some τ))->rho p as g.n j=g.n+j:=fun j e=>by
  unfold rho;cases hb:Nat.blt j p with
  | false=>rfl
  | true =>
   simp only[cond_true];split
   ·rename_i τ h; exact absurd h (e (by simpa using hb) τ)
   ·rfl
 have hcase:∀ j,(j < p/\∃ τ,alook j as=some (some τ)) \/ (j < p->∀ τ,alook j as ≠ some (some τ)):=fun j=>by
  by_cases hj:j < p
  ·cases h:alook j as with
   | none=>exact .inr (fun _ τ e=>by cases e)
   | some o=>cases o with
    | none=>exact .inr (fun _ τ e=>by cases e)
    | some τ=>exact .inl ⟨hj,τ,rfl⟩
  ·exact .inr (fun h=>absurd h hj)
 have hτlt:∀ j τ,alook j as=some (some τ)->τ < g.n:=fun j τ e=>hI.dlt τ (hD j τ e)
 have hinj:∀ i j,i < ro.bl.length->j < ro.bl.length->rho p as g.n i=rho p as g.n j->i=j:=by
  intro i j _ _ e;rcases hcase i with ⟨hi,τ,h1⟩ | h1
  ·rcases hcase j with ⟨hj,σ,h2⟩ | h2
   ·rw[hρs i τ hi h1,hρs j σ hj h2] at e; subst e; exact hT.inj i j τ h1 h2
   ·rw[hρs i τ hi h1,hρn j h2] at e; have:=hτlt i τ h1; omega
  ·rcases hcase j with ⟨hj,σ,h2⟩ | h2
   ·rw[hρn i h1,hρs j σ hj h2] at e; have:=hτlt j σ h2; omega
   ·rw[hρn i h1,hρn j h2] at e; omega
 let g4:G:={ loc:=fun σ=>if g.n <= σ then g3.loc (σ - g.n) else g.loc σ,n:=g.n+ro.bl.length,dom:=fun σ=>g.dom σ \/ (g.n <= σ/\σ < g.n+ro.bl.length/\(σ - g.n < p->∀ τ,alook (σ - g.n) as ≠ some (some τ))),rt:=g.rt,sub:=fun σ=>@dite _ (∃ j,j < ro.bl.length/\rho p as g.n j=σ) (Classical.propDecidable _) (fun h=>g3.sub (Classical.choose h)) (fun _=>g.sub σ) }
 have hsub:∀ j,j < ro.bl.length->g4.sub (rho p as g.n j)=g3.sub j:=by
  intro j hj;have hex:∃ i,i < ro.bl.length/\rho p as g.n i=rho p as g.n j:=⟨j,hj,rfl⟩
  show @dite _ (∃ i,i < ro.bl.length/\rho p as g.n i=rho p as g.n j) (Classical.propDecidable _) (fun h=>g3.sub (Classical.choose h)) _=_;rw[dif_pos hex,hinj _ _ (Classical.choose_spec hex).1 hj (Classical.choose_spec hex).2]
 have hsub2:∀ σ,(∀ j,j < ro.bl.length->rho p as g.n j ≠ σ)->g4.sub σ=g.sub σ:=by
  intro σ hno;show @dite _ (∃ i,i < ro.bl.length/\rho p as g.n i=σ) (Classical.propDecidable _) (fun h=>g3.sub (Classical.choose h)) _=_;rw[dif_neg (fun ⟨j,hj,e⟩=>hno j hj e)]
 have h4old:∀ σ,g.dom σ->g4.loc σ=g.loc σ:=fun σ h=>if_neg (by have:=hI.dlt σ h; omega)
 have hρ:∀ j,g3.dom j->g4.dom (rho p as g.n j)/\g4.loc (rho p as g.n j)=g3.loc j:=by
  intro j hj;have hj:j < ro.bl.length:=hj;rcases hcase j with ⟨hjp,τ,h1⟩ | h1
  ·rw[hρs j τ hjp h1];have hd:=hD j τ h1;refine ⟨.inl hd,?_⟩;rw[h4old τ hd,hloc3 j hjp];exact (Y22 h1).symm
  ·rw[hρn j h1];refine ⟨.inr ⟨by omega,by omega,by rw[Nat.add_sub_cancel_left]; exact h1⟩,?_⟩;show (if g.n <= g.n+j then g3.loc (g.n+j - g.n) else _)=_;rw[if_pos (by omega),Nat.add_sub_cancel_left]
 have hmi:∀ j,j < ro.bl.length->mget (rho p as g.n j) (renMem (rho p as g.n) (ro.mem y)++(dropA as p (sh.bl.length - p)++m))=(mget j (ro.mem y)).ren (rho p as g.n):=fun j hj =>
  Yfn hinj ro.bl 0 _ _ (by omega) j (Nat.zero_le _) (by omega)
 have hmo:∀ σ,(∀ j,j < ro.bl.length->rho p as g.n j ≠ σ)->mget σ (renMem (rho p as g.n) (ro.mem y)++(dropA as p (sh.bl.length - p)++m))=mget σ (dropA as p (sh.bl.length - p)++m):=fun σ h =>
  Yfo ro.bl 0 _ _ (fun i _ h2=>h i (by omega))
 have hmo2:∀ σ,(∀ j,j < ro.bl.length->rho p as g.n j ≠ σ)->mget σ (renMem (rho p as g.n) (ro.mem y)++(dropA as p (sh.bl.length - p)++m))=.gone \/
   (mget σ (renMem (rho p as g.n) (ro.mem y)++(dropA as p (sh.bl.length - p)++m))=mget σ m/\∀ j,alook j as ≠ some (some σ)):=fun σ hno=>by
  rw[hmo σ hno];rcases Y5k as m σ (sh.bl.length - p) p with ⟨h1,_⟩ | ⟨h1,h2⟩
  ·exact .inl h1
  ·refine .inr ⟨h1,fun j e=>?_⟩;by_cases hj:j < p
   ·exact hno j (by omega) (hρs j σ hj e)
   ·exact h2 j (by omega) (by have:=hT.asg j _ e; omega) e
 generalize hm4:renMem (rho p as g.n) (ro.mem y)++(dropA as p (sh.bl.length - p)++m)=m4 at *
 have hsplit:∀ σ,(∃ j,j < ro.bl.length/\rho p as g.n j=σ) \/ ∀ j,j < ro.bl.length->rho p as g.n j ≠ σ:=fun σ=>by
  by_cases h:∃ j,j < ro.bl.length/\rho p as g.n j=σ
  ·exact .inl h
  ·exact .inr (fun j hj e=>h ⟨j,hj,e⟩)
 -- who is one's own behind it
 have hlv:∀ σ,Lv g4 m4 σ->(∃ j,j < ro.bl.length/\rho p as g.n j=σ/\Lv g3 (ro.mem y) j/\g4.loc σ=g3.loc j) \/ (Lv g m σ/\(∀ j,alook j as ≠ some (some σ))/\g4.loc σ=g.loc σ):=by
  intro σ ⟨h1,h2⟩;rcases hsplit σ with ⟨j,hj,e⟩ | hno
  ·subst e;rw[hmi j hj,Yfr] at h1;have:=(hρ j hj).2;exact .inl ⟨j,hj,rfl,⟨h1,by rw[<- this]; exact h2⟩,this⟩
  ·rcases hmo2 σ hno with h3 | ⟨h3,h4⟩
   ·rw[h3] at h1; cases h1
   ·rw[h3] at h1;have hd:=hI.live_lt h1;have:=h4old σ hd;exact .inr ⟨⟨h1,by rw[<- this]; exact h2⟩,h4,this⟩
 have hsb:∀ σ c,Sb g4 m4 σ c->(∃ j,j < ro.bl.length/\rho p as g.n j=σ/\Sb g3 (ro.mem y) j c/\g4.sub σ=g3.sub j) \/ (Sb g m σ c/\(∀ j,alook j as ≠ some (some σ))/\g4.sub σ=g.sub σ):=by
  intro σ c ⟨h1,h2⟩;rcases hsplit σ with ⟨j,hj,e⟩ | hno
  ·subst e;rw[hmi j hj,Yfq] at h1;have:=hsub j hj;exact .inl ⟨j,hj,rfl,⟨h1,by rw[<- this]; exact h2⟩,this⟩
  ·rcases hmo2 σ hno with h3 | ⟨h3,h4⟩
   ·rw[h3] at h1; cases h1
   ·rw[h3] at h1;have:=hsub2 σ hno;exact .inr ⟨⟨h1,by rw[<- this]; exact h2⟩,h4,this⟩
 have hown:∀ b,Own g4 m4 b->Own g3 (ro.mem y) b \/ (Own g m b/\outX X g m as b):=by
  rintro b (⟨σ,h1,h2⟩ | ⟨σ,c,h1,h2⟩)
  ·rcases hlv σ h1 with ⟨j,_,_,h3,h4⟩ | ⟨h3,h4,h5⟩
   ·exact .inl (h3.own (by rw[<- h4]; exact h2))
   ·have:OwnT g m σ b:=.inl ⟨h3,by rw[<- h5]; exact h2⟩;exact .inr ⟨this.own,.inr ⟨σ,h4,this⟩⟩
  ·rcases hsb σ c h1 with ⟨j,_,_,h3,h4⟩ | ⟨h3,h4,h5⟩
   ·exact .inl (.inr ⟨j,c,h3,by rw[<- h4]; exact h2⟩)
   ·have:OwnT g m σ b:=.inr ⟨c,h3,by rw[<- h5]; exact h2⟩;exact .inr ⟨this.own,.inr ⟨σ,h4,this⟩⟩
 have hown3:∀ b,Own g3 (ro.mem y) b->Own g2 m2 b:=by
  rintro b (⟨i,l1,l2⟩ | ⟨i,c,l1,l2⟩)
  ·obtain ⟨τ,e1,e2⟩:=hT3.own i l1;exact e2.own (by rw[<- Y22 e1 (n:=ro.bl.length)]; exact l2)
  ·obtain ⟨τ,e1,e2⟩:=hT3.sbs i c l1;exact .inr ⟨τ,c,e2,by rw[<- Y23 e1 (n:=ro.bl.length)]; exact l2⟩
 have hownT1:∀ b,Own g1 (sh.mem x) b->∃ τ,(∃ i,alook i as=some (some τ))/\OwnT g m τ b:=by
  rintro b (⟨i,l1,l2⟩ | ⟨i,c,l1,l2⟩)
  ·obtain ⟨τ,e1,e2⟩:=hT.own i l1;exact ⟨τ,⟨i,e1⟩,.inl ⟨e2,by rw[<- Y22 e1 (n:=sh.bl.length)]; exact l2⟩⟩
  ·obtain ⟨τ,e1,e2⟩:=hT.sbs i c l1;exact ⟨τ,⟨i,e1⟩,.inr ⟨c,e2,by rw[<- Y23 e1 (n:=sh.bl.length)]; exact l2⟩⟩
 have hown1:∀ b,Own g1 (sh.mem x) b->Own g m b:=fun b h=>let ⟨τ,_,h2⟩:=hownT1 b h; h2.own
 have hownE:∀ b,Own g4 m4 b->Own g m b \/ w.heap.size <= b:=by
  intro b hb;rcases hown b hb with h | ⟨h,_⟩
  ·exact (hx.own b (hown3 b h)).imp (hown1 b) id
  ·exact .inl h
 have hH3:Holds w2 (okB (outX X g m as) g3 (ro.mem y)) w2 (okB X g4 m4):=by
  rintro b ⟨h1,h2⟩ _;refine ⟨⟨fun h=>h1 (.inl h),fun h=>?_⟩,rfl⟩;rcases hown b h with h | ⟨_,h⟩
  ·exact h2 h
  ·exact h1 h
 have hgx:GExt g g4:=⟨⟨by show g.n <= g.n+_; omega,rfl⟩,fun τ h=>⟨.inl h,h4old τ h⟩⟩
 have hkeep:∀ b,b < w.heap.size->¬ Own g m b->w2.heap[b]?=w.heap[b]?:=fun b hb hn=>hx.keep b hb (fun h=>hn (hown1 b h))
 have hH:Holds w (okB X g m) w2 (okB X g4 m4):=by
  rintro b ⟨h1,h2⟩ ⟨_,_,_,h3⟩;have hlt:=Yb1 h3;refine ⟨⟨h1,fun h=>?_⟩,hkeep b hlt h2⟩;rcases hownE b h with h | h
  ·exact h2 h
  ·omega
 have hrt3:g4.rt=g3.rt:=by show g.rt=g2.rt; rw[hx.rt]; rfl
 refine ⟨g4,rfl,⟨fun σ=>?_,fun σ σ' h1 h2 e=>?_,fun σ h1 h2=>?_,fun b hb=>Nat.lt_of_lt_of_le (hI.xlt b hb) hx.size,fun σ hd=>?_,fun σ hd=>?_,fun σ c k=>?_⟩,⟨hgx,fun σ hd=>?_,hx.size,hkeep,hownE,hx.os,hx.tape,hx.output⟩,fun t=>RV_ren hρ hH3 (hfr3 t)⟩
 ·rcases hsplit σ with ⟨j,hj,e⟩ | hno
  ·subst e;rw[hmi j hj];exact Y2 hρ hH3 hrt3 (show g3.dom j from hj) (hsub j hj) (hT3.inv.ok j)
  ·rcases hmo2 σ hno with h3 | ⟨h3,h4⟩
   ·rw[h3]; trivial
   rw[h3];by_cases hd:g.dom σ
   ·have hk:∀ b,OwnT g m σ b->w2.heap[b]?=w.heap[b]?:=fun b hb=>hx.keep _ (hI.ownlt hb.own) (fun h=>by
     obtain ⟨τ',⟨i,e1⟩,e2⟩:=hownT1 b h;have:=hI.uniq e2 hb;subst this;exact h4 i e1)
    exact Y1 hgx hH hd (fun q1 q2=>hk _ (.inl ⟨⟨q1,q2⟩,rfl⟩)) (fun c q1=>⟨congrFun (hsub2 σ hno) c,fun q2=>hk _ (.inr ⟨c,⟨q1,q2⟩,rfl⟩)⟩) (hI.ok σ)
   ·rw[hI.fresh σ hd]; trivial
 ·rcases hlv σ h1 with ⟨j,q1,q2,q3,q4⟩ | ⟨q1,q2,q3⟩
  ·rcases hlv σ' h2 with ⟨j',p1,p2,p3,p4⟩ | ⟨p1,p2,p3⟩
   ·have:=hT3.inv.inj j j' q3 p3 (by rw[<- q4,<- p4]; exact e);rw[<- q2,<- p2,this]
   ·exact absurd (.inr ⟨σ',p2,.inl ⟨p1,by rw[<- p3,<- e,q4]⟩⟩) (hT3.inv.far j q3)
  ·rcases hlv σ' h2 with ⟨j',p1,p2,p3,p4⟩ | ⟨p1,p2,p3⟩
   ·exact absurd (.inr ⟨σ,q2,.inl ⟨q1,by rw[<- q3,e,p4]⟩⟩) (hT3.inv.far j' p3)
   ·exact hI.inj σ σ' q1 p1 (by rw[<- q3,<- p3]; exact e)
 ·rcases hlv σ h1 with ⟨j,q1,q2,q3,q4⟩ | ⟨q1,q2,q3⟩
  ·rw[q4] at h2; exact hT3.inv.far j q3 (.inl h2)
  ·rw[q3] at h2; exact hI.far σ q1 h2
 ·rcases hsplit σ with ⟨j,hj,e⟩ | hno
  ·subst e; exact absurd (hρ j hj).1 hd
  ·rcases hmo2 σ hno with h3 | ⟨h3,h4⟩
   ·exact h3
   ·rw[h3]; exact hI.fresh σ (fun h=>hd (.inl h))
 ·rcases hd with hd | ⟨_,hd,_⟩
  ·have:=hI.dlt σ hd; show σ < g.n+_; omega
  ·exact hd
 ·rcases hsb σ c k with ⟨j,q1,q2,q3,q4⟩ | ⟨q1,q2,q3⟩
  ·rw[q4];obtain ⟨k1,k2,k3,k4⟩:=hT3.inv.sb j c q3;refine ⟨k1,fun h=>k2 (.inl h),fun σ' h' e=>?_,fun σ' c' h' e=>?_⟩
   ·rcases hlv σ' h' with ⟨j',p1,p2,p3,p4⟩ | ⟨p1,p2,p3⟩
    ·exact k3 j' p3 (by rw[<- p4]; exact e)
    ·exact k2 (.inr ⟨σ',p2,.inl ⟨p1,by rw[<- p3]; exact e⟩⟩)
   ·rcases hsb σ' c' h' with ⟨j',p1,p2,p3,p4⟩ | ⟨p1,p2,p3⟩
    ·obtain ⟨r1,r2⟩:=k4 j' c' p3 (by rw[<- p4]; exact e);exact ⟨by rw[<- p2,<- q2,r1],r2⟩
    ·exact absurd (.inr ⟨σ',p2,.inr ⟨c',p1,by rw[<- p3]; exact e⟩⟩) k2
  ·rw[q3];obtain ⟨k1,k2,k3,k4⟩:=hI.sb σ c q1;refine ⟨Nat.lt_of_lt_of_le k1 hx.size,k2,fun σ' h' e=>?_,fun σ' c' h' e=>?_⟩
   ·rcases hlv σ' h' with ⟨j',p1,p2,p3,p4⟩ | ⟨p1,p2,p3⟩
    ·exact absurd (.inr ⟨σ,q2,.inr ⟨c,q1,by rw[<- e,p4]⟩⟩) (hT3.inv.far j' p3)
    ·exact k3 σ' p1 (by rw[<- p3]; exact e)
   ·rcases hsb σ' c' h' with ⟨j',p1,p2,p3,p4⟩ | ⟨p1,p2,p3⟩
    ·exact absurd (.inr ⟨σ,q2,.inr ⟨c,q1,by rw[<- e,p4]⟩⟩) (hT3.inv.sb j' c' p3).2.1
    ·exact k4 σ' c' p1 (by rw[<- p3]; exact e)
 ·exact hd.imp id (fun h=>h.1)
theorem Yht:∀ (l:List (Nat × Pat)) (n:Nat) (d:List Dyn),seqK n l=true->∀ i,i < l.length->∀ v,(Yih l d).1[i]?=some v->v.1=n+i
 | [],n,d,h,i,hi,v,hv=>by simp at hi
 | (k,p) :: l,n,d,h,i,hi,v,hv=>by
  have h:(Nat.beq k n && seqK (n+1) l)=true:=h;rw[ba9] at h;have hk:=eb9 h.1;have hv:((k,(p.fill d).1) :: (Yih l (p.fill d).2).1)[i]?=some v:=hv;cases i with
  | zero=>simp at hv; subst hv; simp[hk]
  | succ i =>
   simp only[List.getElem?_cons_succ] at hv;have:=Yht l (n+1) _ h.2 i (by simpa using hi) v hv;omega
theorem Yii:∀ (l:List (Nat × Pat)) (d:List Dyn),(Yih l d).1.length=l.length
 | [],d=>rfl
 | (k,p) :: l,d=>by
  show ((k,(p.fill d).1) :: (Yih l (p.fill d).2).1).length=_;simp[Yii l]
theorem Y7m {g:G} {w:World} {ok:Nat->Prop} {ρ:Nat->Nat}:∀ (fr:Fr) (us:List Value) (n:Nat) (full:Array Value),fr.length=us.length->(∀ i v,fr[i]?=some v->v.1=n+i) ->
  (∀ i u,us[i]?=some u->full.getD (n+i) undef=u)->(∀ t,n <= t->RV g w ok ((fget t fr).ren ρ) (full.getD t undef))->ArgsOK g w ok (fr.map fun p=>p.2.ren ρ) us
 | [],[],n,full,_,_,_,_=>trivial
 | (k,v) :: fr,u :: us,n,full,hl,hk,hf,hr=>by
  have hk0:k=n:=by have:=hk 0 (k,v) rfl; simpa using this
  subst hk0;refine ⟨?_,Y7m fr us (k+1) full (by simpa using hl) (fun i v hv=>by have:=hk (i+1) v (by simpa using hv); omega) (fun i u hu=>by have:=hf (i+1) u (by simpa using hu); rw[<- this]; congr 1; omega) (fun t ht=>?_)⟩
  ·have:=hr k (Nat.le_refl _);rw[Y6i,if_pos rfl] at this;have h0:=hf 0 u rfl;rw[Nat.add_zero] at h0;rw[h0] at this;exact this
  ·have:=hr t (by omega);rw[Y6i,if_neg (by omega)] at this;exact this
 | [],_ :: _,_,_,h,_,_,_=>by cases h
 | _ :: _,[],_,_,h,_,_,_=>by cases h
theorem Y27 {ρ:Nat->Nat}:∀ (l:List AV),(avList l).ren ρ=avList (l.map fun v=>v.ren ρ)
 | []=>rfl
 | a :: l=>by show AV.cons (a.ren ρ) ((avList l).ren ρ)=_; rw[Y27 l]; rfl
theorem Ydx {g:G} {w:World} {ok:Nat->Prop} {ρ:Nat->Nat} (fr:Fr) (us:List Value) (h:ArgsOK g w ok (fr.map fun p=>p.2.ren ρ) us):RV g w ok ((outAV fr).ren ρ) (resVal us):=by
 match fr,us,h with
 | [],[],_=>exact ⟨fun e=>(by cases e),fun _=>⟨[],rfl,rfl⟩⟩
 | [(k,v)],[u],h=>exact h.1
 | (k,v) :: (k2,v2) :: fr,u :: u2 :: us,h =>
  have e:(outAV ((k,v) :: (k2,v2) :: fr)).ren ρ=.tu (avList (((k,v) :: (k2,v2) :: fr).map fun p=>p.2.ren ρ)):=by
   show AV.tu ((avList _).ren ρ)=_;rw[Y27,List.map_map]; rfl
  rw[e];exact ⟨fun e=>(by cases e),fun _=>⟨_,Ym _ _ h,rfl⟩⟩
 | [],_ :: _,h=>exact h.elim
 | _ :: _,[],h=>exact h.elim
 | [_],_ :: _ :: _,h=>exact h.2.elim
 | _ :: _ :: _,[_],h=>exact h.2.elim
theorem Y1v {g:G} {w:World} {ok:Nat->Prop}:∀ {l:List AV} {us:List Value},ArgsOK g w ok l us->l.length=us.length
 | [],[],_=>rfl
 | a :: l,b :: us,⟨_,h⟩=>by simp[Y1v h]
 | [],_ :: _,h=>h.elim
 | _ :: _,[],h=>h.elim
theorem Spec.shp_uni (sh ro:Shape) (F:HL sh.ts->Option (HL ro.ts)):(Spec.shp sh ro F).Uni:=by
 intro args m N R k kp r h;left;simp only[Spec.shp] at h ⊢;obtain ⟨h1,h2⟩:=Y2j h;clear h;split at h2
 ·rename_i x as hx;cases hF:F x with
  | none=>rw[hF] at h2; cases h2
  | some y =>
   obtain ⟨δ,hδ⟩:=Y7p (sh.fzs (initFr 0 args) m) m;exact ⟨(outAV (ro.fr y)).ren (rho ro.pin as N),renMem (rho ro.pin as N) (ro.mem y)++(dropA as ro.pin (sh.bl.length - ro.pin)++δ),N+ro.bl.length,fun k' kp'=>by simp only[h1,cond_true,hF,Option.bind_some,hδ,la9]⟩
 ·cases h2
section
variable {P:Program} {C:Ctx}
theorem Y1u {g:G} {w:World} {ok:Nat->Prop} {args:List AV} {vs:List Value} (n:Nat) (h:ArgsOK g w ok args vs):FrOK g w ok (initFr 0 args) (vs.toArray++Array.replicate n undef):=by
 refine Y95 _ vs 0 _ h (fun i v hv=>?_);have hi:i < vs.length:=(List.getElem?_eq_some_iff.1 hv).1;simp only[Nat.zero_add,Array.getD_eq_getD_getElem?];rw[Array.getElem?_append_left (by simpa using hi)];simp[hv]
theorem Sound.shp {f:FuncId} {fn:Func} {c:Code} (hf:P.funcs[f]?=some fn) (hb:fn.body=some c) (hn:fn.name ≠ "runtime.NumGoroutine") (hC:CtxOK P C) (hS:SumOK P C c) (hnt:fn.ntmps=C.nt)
  (sh ro:Shape) (hro:ro.pin=C.pin) (hpsh:C.pin <= sh.bl.length) (hpro:C.pin <= ro.bl.length) (hsh:sh.pin=0) (hts:sh.sl.length <= C.nt) (hk:seqK 0 ro.sl=true)
  (F:HL sh.ts->Option (HL ro.ts)) (heq:∀ x,exec C c (sh.fr x) (sh.mem x) sh.bl.length (retS C fn.results.toList ro)=F x):Sound P f (Spec.shp sh ro F):=by
 refine ⟨Spec.shp_uni sh ro F,⟨fn,hf,by rw[hb]; rfl,hn⟩,?_⟩;intro R args m g k kp r X w vs hrun hI hrt hargs;simp only[Spec.shp] at hrun;obtain ⟨hlen,hrun⟩:=Y2j hrun;have hlen:=eb9 hlen;obtain ⟨hI1,hx1⟩:=Inv.frzL (sh.fzs (initFr 0 args) m) hI;split at hrun
 ·rename_i x as hx;unfold Shape.getA at hx;generalize hm1:frzL (sh.fzs (initFr 0 args) m) m=m1 at *;cases hF:F x with
  | none=>rw[hF] at hrun; cases hrun
  | some y =>
   rw[hF,Option.bind_some] at hrun;have hvl:vs.length=sh.sl.length:=by rw[<- hlen]; exact (Y1v hargs).symm
   have hfr0:=Y1u (fn.ntmps - vs.toArray.size) (ArgsOK.mono hx1.gx (hx1.holds (X:=X)) hargs);obtain ⟨hT,hfr⟩:=Y87 sh hx hI1 hfr0 (outX X g m1 as) (fun _ h=>.inl h) (fun _ h=>h);have hD:=Y86 sh hx hI1 hfr0 hsh
   let E:Env:=⟨C.nt,C.pin,w.heap.size,none,rtOf P⟩
   have hE:EnvOK P C.ek E:=⟨rfl,rfl,fun _=>rfl,rfl⟩
   have hexec:=heq x;rw[hF] at hexec
   have hgoal:CallsIn Fence.wide 0 P f vs.toArray w (Y3 X g m w k kp r):=by
    refine callsIn_of_wp_marks hf hb trivial ?_;refine wpIn_mono (Y6e hC hE c hS (sh.fr x) (sh.mem x) (asgG g as sh.bl.length) _ y (outX X g m1 as) { tmps:=vs.toArray++Array.replicate (fn.ntmps - vs.toArray.size) undef,defers:=[] } w hexec ⟨hT.inv,hfr,?_,trivial,hrt,Nat.le_refl _⟩) ?_
    ·show (vs.toArray++Array.replicate (fn.ntmps - vs.toArray.size) undef).size=C.nt;simp[hvl,hnt]; omega
    ·rintro e a' w' ⟨e',fr',m',g',q1,q2,q3,q4⟩
     have hmain:(∃ l,Yfw C fr' m' fn.results.toList=some l/\(bif Nat.beq l.length ro.sl.length then ro.get (initFr 0 l) m' else none)=some y)->LeavesInM Fence.wide 0 P fn a'.tmps (Y3 X g m w k kp r) a'.defers .returning w':=by
      rintro ⟨l,hl,hy⟩;obtain ⟨hll,hy⟩:=Y2j hy;have hll:=eb9 hll;refine Ya5 (by intro e; cases e) a'.defers w' q3.defers (DSame.refl _ _) q3.defers.at (fun w2 hd2=>?_);have q4:=hd2.ext (Nat.le_refl _) q4;have hI2:=hd2.inv q3.inv;have hfr2:FrOK g' w2 (okB (outX X g m1 as) g' m') fr' a'.tmps:=FrOK.mono (GExt.refl g') (hd2.holds _) q3.fr;obtain ⟨us,u1,u2⟩:=Yfx hC hI2 hfr2 fn.results.toList l hl;have hul:=Y1v u2;unfold Shape.get at hy;split at hy
      ·rename_i y' as3 hy';cases hy;unfold Shape.getA at hy';obtain ⟨hI3,hx3⟩:=Inv.frzL (ro.fzs (initFr 0 l) m') hI2;have q5:=q4.trans hx3.to0;have hfr3:=Y1u 0 (ArgsOK.mono hx3.gx (hx3.holds (X:=outX X g m1 as)) u2);have q5:Ext0 C.pin (asgG g as sh.bl.length) (sh.mem x) w g' (frzL (ro.fzs (initFr 0 l) m') m') w2:=q5;obtain ⟨g4,n4,i4,x4,r4⟩:=Ya3 hI1 hT hD hI3 hpsh hpro q5 hfr3 hy' hro;rw[hro] at hrun;refine ⟨resVal us,Yh2 u1,.inl ⟨_,_,g4,resVal us,rfl,by rw[n4]; exact hrun,i4,?_,hx1.trans x4⟩⟩;refine Ydx _ us (Y7m _ us 0 (us.toArray++Array.replicate 0 undef) ?_ (fun i v hv=>?_) (fun i u hu=>?_) (fun t _=>r4 t))
       ·unfold Shape.fr; rw[Yii,<- hll,hul]
       ·have hi:i < ro.sl.length:=by
         have h1:=(List.getElem?_eq_some_iff.1 hv).1;unfold Shape.fr at h1;rw[Yii] at h1; exact h1
        exact Yht ro.sl 0 _ hk i hi v hv
       ·simp[Array.getD_eq_getD_getElem?,hu]
      ·cases hy
     have hopt:∀ (o:Option (List AV)),(match o with | some l=>bif Nat.beq l.length ro.sl.length then ro.get (initFr 0 l) m' else none | none=>none)=some y->∃ l,o=some l/\(bif Nat.beq l.length ro.sl.length then ro.get (initFr 0 l) m' else none)=some y:=by
      intro o ho;cases o with
      | none=>cases ho
      | some l=>exact ⟨l,rfl,ho⟩
     cases e' with
     | normal=>cases q1; exact hmain (hopt _ q2)
     | ret=>cases q1; exact hmain (hopt _ q2)
     | exit i=>cases q2
     | goto l=>cases q2
     | panic v=>cases q2
   exact callsIn_wide.1 hgoal
 ·cases hrun
def zipFr:List Nat->List AV->Fr
 | k :: ks,a :: l=>(k,a) :: zipFr ks l
 | _,_=>[]
def Spec.rnd (keys:List Nat) (sh ro:Shape) (F:HL sh.ts->Option (HL ro.ts)):Spec where
 run args m N k kp:=bif Nat.beq args.length keys.length then match sh.getA (zipFr keys args) m with
  | some (x,as)=>(F x).bind fun y=>k ((outAV (ro.fr y)).ren (rho ro.pin as N)) (renMem (rho ro.pin as N) (ro.mem y)++(dropA as ro.pin (sh.bl.length - ro.pin)++frzL (sh.fzs (zipFr keys args) m) m)) (N+ro.bl.length)
  | none=>none else none
def retY (ro:Shape):Ex->Fr->Mem->Nat->Option (HL ro.ts)
 | .normal,fr,m,_=>ro.get [(0,.d (.int .i64) (0:Int))] m
 | .ret,fr,m,_=>ro.get [(0,.d (.int .i64) (1:Int))] m
 | .exit i,fr,m,_=>ro.get [(0,.d (.int .i64) (natI (i+2)))] m
 | _,_,_,_=>none
theorem Spec.rnd_uni (keys:List Nat) (sh ro:Shape) (F:HL sh.ts->Option (HL ro.ts)):(Spec.rnd keys sh ro F).Uni:=by
 intro args m N R k kp r h;left;simp only[Spec.rnd] at h ⊢;obtain ⟨h1,h2⟩:=Y2j h;clear h;split at h2
 ·rename_i x as hx;cases hF:F x with
  | none=>rw[hF] at h2; cases h2
  | some y =>
   obtain ⟨δ,hδ⟩:=Y7p (sh.fzs (zipFr keys args) m) m;exact ⟨(outAV (ro.fr y)).ren (rho ro.pin as N),renMem (rho ro.pin as N) (ro.mem y)++(dropA as ro.pin (sh.bl.length - ro.pin)++δ),N+ro.bl.length,fun k' kp'=>by simp only[h1,cond_true,hF,Option.bind_some,hδ,la9]⟩
 ·cases h2
theorem Ykv {g:G} {w:World} {ok:Nat->Prop}:∀ (keys:List Nat) (args:List AV) (vs:List Value) (tmps:Array Value),ArgsOK g w ok args vs->(∀ (i k:Nat) (v:Value),keys[i]?=some k->vs[i]?=some v->tmps.getD k undef=v)->FrOK g w ok (zipFr keys args) tmps
 | [],args,vs,tmps,_,_=>by cases args <;> exact fun t=>Yr _ _ _ _
 | k :: ks,[],vs,tmps,_,_=>fun t=>Yr _ _ _ _
 | k :: ks,a :: l,v :: vs,tmps,⟨h1,h2⟩,h=>by
  intro t;show RV g w ok (fget t ((k,a) :: zipFr ks l)) _;rw[Y6i];split
  ·rename_i e; subst e;rw[h 0 k v rfl rfl]; exact h1
  ·exact Ykv ks l vs tmps h2 (fun i k v hk hv=>h (i+1) k v (by simpa using hk) (by simpa using hv)) t
 | k :: ks,_ :: _,[],tmps,h,_=>h.elim
theorem Y7d:∀ (ps:List Nat) (vs:List Value) (tmps:Array Value) (k:Nat),k ∉ ps->((ps.zip vs).foldl (fun tmps (t,a)=>tmps.setIfInBounds t a) tmps).getD k undef=tmps.getD k undef
 | [],_,_,_,_=>by simp
 | p :: ps,[],_,_,_=>by simp
 | p :: ps,v :: vs,tmps,k,h=>by
  simp only[List.mem_cons,not_or] at h;simp only[List.zip_cons_cons,List.foldl_cons];rw[Y7d ps vs _ k h.2];simp only[Array.getD_eq_getD_getElem?,Array.getElem?_setIfInBounds_ne (Ne.symm h.1)]
theorem Y7e:∀ (ps:List Nat) (vs:List Value) (tmps:Array Value),((ps.zip vs).foldl (fun tmps (t,a)=>tmps.setIfInBounds t a) tmps).size=tmps.size
 | [],_,_=>by simp
 | p :: ps,[],_=>by simp
 | p :: ps,v :: vs,tmps=>by
  simp only[List.zip_cons_cons,List.foldl_cons];rw[Y7e ps vs]; simp
theorem Y7c:∀ (ps:List Nat) (vs:List Value) (tmps:Array Value),ps.Nodup->(∀ p ∈ ps,p < tmps.size)->∀ (i k:Nat) (v:Value),ps[i]?=some k->vs[i]?=some v->((ps.zip vs).foldl (fun tmps (t,a)=>tmps.setIfInBounds t a) tmps).getD k undef=v
 | [],_,_,_,_,i,k,v,hk,_=>by simp at hk
 | p :: ps,[],_,_,_,i,k,v,_,hv=>by simp at hv
 | p :: ps,u :: vs,tmps,hn,hs,i,k,v,hk,hv=>by
  simp only[List.zip_cons_cons,List.foldl_cons];rw[List.nodup_cons] at hn;cases i with
  | zero =>
   simp at hk hv;subst hk hv;rw[Y7d ps vs _ p hn.1];have:=hs p (List.mem_cons_self ..);simp[Array.getD,this]
  | succ i =>
   exact Y7c ps vs _ hn.2 (fun q hq=>by simpa using hs q (List.mem_cons_of_mem _ hq)) i k v (by simpa using hk) (by simpa using hv)
theorem Yf5 (w:World) (l:Nat) (a b:Obj):(w.putObj l a).putObj l b=w.putObj l b:=by
 unfold World.putObj;simp
theorem YSound.rnd {id:Nat} {rt:RT} (hrt0:rtOf P id=some rt) (hC:CtxOK P C) (hS1:SumOK P C rt.as) (hS2:SumOK P C rt.body) (hnt:rt.nt=C.nt) (hnr:C.nr=false) (sl:List Nat)
  (sh ro:Shape) (hro:ro.pin=C.pin) (hpsh:C.pin <= sh.bl.length) (hpro:C.pin <= ro.bl.length) (hsh:sh.pin=0) (hv:∀ y,∃ t,ro.fr y=[(0,.d (.int .i64) t)])
  (hps:rt.ps.toList.Nodup) (hpn:∀ p ∈ rt.ps.toList,p < rt.nt/\p ∉ sl)
  (F:HL sh.ts->Option (HL ro.ts)) (heq:∀ x,exec C rt.as (sh.fr x) (sh.mem x) sh.bl.length (fun e fr m N=>match e with | .normal=>exec C rt.body fr m N (retY ro) | _=>none)=F x) :
  YSound P id sl (Spec.rnd (sl++rt.ps.toList) sh ro F):=by
 refine ⟨Spec.rnd_uni _ sh ro F,rt,hrt0,?_⟩;intro R ls args m g k kp r X w vals fn tmps l D hrun hI hrt hls hargs htn hXl hrec;simp only[Spec.rnd] at hrun;obtain ⟨hlen,hrun⟩:=Y2j hrun;have hlen:=eb9 hlen;have hl1:=Y1v hls;have hl2:=Y1v hargs;simp only[ln9,List.length_map] at hlen hl1
 have hvp:vals.length=rt.ps.size:=by rw[<- hl2]; have:rt.ps.toList.length=rt.ps.size:=by simp
                                     omega
 refine ⟨hvp,fun rd=>?_⟩;obtain ⟨hI1,hx1⟩:=Inv.frzL (sh.fzs (zipFr (sl++rt.ps.toList) (ls++args)) m) hI;split at hrun
 ·rename_i x as hx;unfold Shape.getA at hx;generalize hm1:frzL (sh.fzs (zipFr (sl++rt.ps.toList) (ls++args)) m) m=m1 at *;cases hF:F x with
  | none=>rw[hF] at hrun; cases hrun
  | some y =>
   rw[hF,Option.bind_some] at hrun
   have hzip:(rt.ps.zip vals.toArray).foldl (fun tmps (t,a)=>tmps.setIfInBounds t a) tmps=(rt.ps.toList.zip vals).foldl (fun tmps (t,a)=>tmps.setIfInBounds t a) tmps:=by
    rw[<- Array.foldl_toList]; simp
   rw[hzip];have hsz:=Y7e rt.ps.toList vals tmps
   have hfr0:FrOK g w (okB X g m1) (zipFr (sl++rt.ps.toList) (ls++args)) ((rt.ps.toList.zip vals).foldl (fun tmps (t,a)=>tmps.setIfInBounds t a) tmps):=by
    refine Ykv _ _ _ _ (ArgsOK.mono hx1.gx (hx1.holds (X:=X)) (hls.append hargs)) (fun i k v hk hv=>?_);by_cases hi:i < sl.length
    ·rw[List.getElem?_append_left hi] at hk;rw[List.getElem?_append_left (by simpa using hi),List.getElem?_map,hk] at hv;rw[Y7d _ _ _ _ (fun h=>(hpn k h).2 (List.mem_of_getElem? hk))];exact oi9 hv
    ·rw[List.getElem?_append_right (by omega)] at hk;rw[List.getElem?_append_right (by simp; omega)] at hv;rw[List.length_map] at hv;exact Y7c _ _ _ hps (fun p hp=>by rw[htn]; exact (hpn p hp).1) _ k v hk hv
   generalize hT0:(rt.ps.toList.zip vals).foldl (fun tmps (t,a)=>tmps.setIfInBounds t a) tmps=tmps2 at *;obtain ⟨hT,hfr⟩:=Y87 sh hx hI1 hfr0 (outX X g m1 as) (fun _ h=>.inl h) (fun _ h=>h);have hD:=Y86 sh hx hI1 hfr0 hsh
   let E:Env:=⟨C.nt,C.pin,w.heap.size,some l,rtOf P⟩
   have hE:EnvOK P C.ek E:=⟨rfl,rfl,fun h=>(by have h:C.nr=true:=h; rw[hnr] at h; cases h),rfl⟩
   have hexec:=heq x;rw[hF] at hexec;have hXl1:outX X g m1 as l:=.inl hXl;have hlt:=Yb1 hrec;refine roundIn_of_wpIn trivial ?_;refine wpIn_mono (Y6e hC hE rt.as hS1 (sh.fr x) (sh.mem x) (asgG g as sh.bl.length) _ y (outX X g m1 as) { tmps:=tmps2,defers:=[] } w hexec ⟨hT.inv,hfr,by show tmps2.size=C.nt; rw[hsz,htn,hnt],trivial,hrt,Nat.le_refl _⟩) ?_;rintro e1 a1 w1 ⟨e',fr1,m1',g1,q1,q2,q3,q4⟩;have hnl:∀ {gg:G} {mm:Mem} {ww:World},Inv gg (outX X g m1 as) mm ww->¬ Own gg mm l:=fun hh hb=>hh.ownfar hb hXl1
   cases e' with
   | normal =>
    cases q1;simp only at q2;have hrec1:w1.heap[l]?=some (.loop (recOf rt fn tmps D .ready none)):=(q4.keep l hlt (hnl hT.inv)).trans hrec;have hlt1:=Yb1 hrec1;refine ⟨_,run_beginRound hrec1 rfl,?_⟩;generalize hw2:w1.putObj l (.loop { recOf rt fn tmps D .ready none with state:=.busy })=w2;have hI2:Inv g1 (outX X g m1 as) m1' w2:=by rw[<- hw2]; exact q3.inv.putX hXl1 _
    have hH12:Holds w1 (okB (outX X g m1 as) g1 m1') w2 (okB (outX X g m1 as) g1 m1'):=fun b hb _=>⟨hb,by rw[<- hw2]; exact World.putObj_heap_other (fun e=>hb.1 (e ▸ hXl1))⟩
    have hdf:DfOK E.b0 w2 (okB (outX X g m1 as) g1 m1') a1.defers:=q3.defers.mono (fun D' h1 _=>⟨h1,by rw[<- hw2]; exact World.putObj_heap_other (fun e=>h1.1 (e ▸ hXl1))⟩);refine wpIn_mono (Y6e hC hE rt.body hS2 fr1 m1' g1 _ y (outX X g m1 as) a1 w2 q2 ⟨hI2,FrOK.mono (GExt.refl g1) hH12 q3.fr,q3.size,hdf,q3.rt,by have:=q3.b0; rw[<- hw2,World.putObj_size]; exact this⟩) ?_;rintro e2 a2 w3 ⟨e'',fr3,m3,g3,p1,p2,p3,p4⟩;have hrec2:w2.heap[l]?=some (.loop { recOf rt fn tmps D .ready none with state:=.busy }):=by rw[<- hw2]; exact World.putObj_heap_same hlt1
    have hrec3:w3.heap[l]?=some (.loop { recOf rt fn tmps D .ready none with state:=.busy }):=(p4.keep l (by rw[<- hw2,World.putObj_size]; exact hlt1) (hnl hI2)).trans hrec2;have hlt3:=Yb1 hrec3
    -- the world with the record as it was
    have hV:Ext0 C.pin (asgG g as sh.bl.length) (sh.mem x) w g3 m3 (w3.putObj l (.loop (recOf rt fn tmps D .ready none))):=by
     have h1:Ext0 C.pin g1 m1' w1 g3 m3 (w3.putObj l (.loop (recOf rt fn tmps D .ready none))):=by
      refine ⟨p4.rt,p4.pin,?_,fun b hb hno=>?_,fun b hb=>?_,?_,?_,?_⟩
      ·have:=p4.size; rw[<- hw2,World.putObj_size] at this; rw[World.putObj_size]; exact this
      ·by_cases e:b=l
       ·subst e; rw[World.putObj_heap_same hlt3,hrec1]
       ·rw[World.putObj_heap_other e,p4.keep b (by rw[<- hw2,World.putObj_size]; exact hb) hno,<- hw2,World.putObj_heap_other e]
      ·rcases p4.own b hb with h | h
       ·exact .inl h
       ·right; rw[<- hw2,World.putObj_size] at h; exact h
      ·have:=p4.os; rw[<- hw2] at this; exact this
      ·have:=p4.tape; rw[<- hw2] at this; exact this
      ·have:=p4.output; rw[<- hw2] at this; exact this
     have q4':Ext0 C.pin (asgG g as sh.bl.length) (sh.mem x) w g1 m1' w1:=q4;exact q4'.trans h1
    have hIV:Inv g3 (outX X g m1 as) m3 (w3.putObj l (.loop (recOf rt fn tmps D .ready none))):=p3.inv.putX hXl1 _
    -- an end with a tag
    have fin:∀ (tag:Int) (jump:Option Code),ro.get [(0,.d (.int .i64) tag)] m3=some y->TagOK tag (if jump.isNone then .ready else .done) jump->jump.isNone=eqI tag 0 ->
      ∃ v w',(Instr.endRound l jump).run P w3=.ok v w'/\∃ v' m' g' cv kd t st pe,Ending.returned v=.returned (.bool (eqI t 0))/\k v' m' g'.n=some r/\v'=.d (.int kd) t /\
       Inv g' X m' w'/\RV g' w' (okB X g' m') v' cv/\Ext g m w g' m' (w'.putObj l (.loop (recOf rt fn tmps D .ready none)))/\w'.heap[l]?=some (.loop (recOf rt fn tmps D st pe))/\TagOK t st pe:=by
     intro tag jump hget htag hj;refine ⟨_,_,run_endRound jump hrec3,?_⟩;unfold Shape.get at hget;split at hget
     ·rename_i y' as3 hy';cases hget;unfold Shape.getA at hy';obtain ⟨hI4,hx4⟩:=Inv.frzL (ro.fzs [(0,.d (.int .i64) tag)] m3) hIV
      have hfrT:FrOK g3 (w3.putObj l (.loop (recOf rt fn tmps D .ready none))) (okB (outX X g m1 as) g3 (frzL (ro.fzs [(0,.d (.int .i64) tag)] m3) m3)) [(0,.d (.int .i64) tag)] #[Value.int .i64 tag]:=by
       intro t;rw[Y6i];split
       ·rename_i e; subst e; exact int_mk _ _
       ·exact Yr _ _ _ _
      obtain ⟨g4,n4,i4,x4,r4⟩:=Ya3 hI1 hT hD hI4 hpsh hpro (hV.trans hx4.to0) hfrT hy' hro;rw[hro] at hrun;obtain ⟨t,ht⟩:=hv y;have r0:=r4 0;rw[ht,Y6i,if_pos rfl] at r0;have htt:tag=t:=by have:=Y9b r0; cases this; rfl
      subst htt;have hout:(outAV (ro.fr y)).ren (rho C.pin as g.n)=.d (.int .i64) tag:=by rw[ht]; rfl
      have hback:(w3.putObj l (.loop { recOf rt fn tmps D .ready none with state:=if jump.isNone then .ready else .done,pending:=jump })).putObj l (.loop (recOf rt fn tmps D .ready none))=w3.putObj l (.loop (recOf rt fn tmps D .ready none)):=Yf5 _ _ _ _;have hfwd:w3.putObj l (.loop { recOf rt fn tmps D .ready none with state:=if jump.isNone then .ready else .done,pending:=jump })=(w3.putObj l (.loop (recOf rt fn tmps D .ready none))).putObj l (.loop { recOf rt fn tmps D .ready none with state:=if jump.isNone then .ready else .done,pending:=jump }):=(Yf5 _ _ _ _).symm;refine ⟨.d (.int .i64) tag,_,g4,.int .i64 tag,.i64,tag,(if jump.isNone then .ready else .done),jump,by rw[hj],by rw[n4,<- hout]; exact hrun,rfl,?_,int_mk _ _,?_,?_,htag⟩
      ·rw[show ({ recOf rt fn tmps D .ready none with state:=LoopState.busy }:Loop)={ recOf rt fn tmps D .ready none with state:=.busy } from rfl];exact hfwd ▸ i4.putX hXl _
      ·rw[hback]; exact hx1.trans x4
      ·exact World.putObj_heap_same hlt3
     ·cases hget
    cases e'' with
    | normal=>cases p1; exact fin 0 none p2 (.inl ⟨rfl,rfl,rfl⟩) rfl
    | ret=>cases p1; exact fin 1 (some .ret) p2 (.inr (.inl ⟨rfl,rfl,rfl⟩)) rfl
    | exit i=>cases p1; exact fin (natI (i+2)) (some (.exit i)) p2 (.inr (.inr ⟨i,by unfold natI; omega,rfl,rfl⟩)) (by show false=_; unfold eqI natI; symm; simp; omega)
    | goto i=>cases p2
    | panic v=>cases p2
   | exit i=>cases q2
   | goto i=>cases q2
   | ret=>cases q2
   | panic v=>cases q2
 ·cases hrun
end
def exK {R:Type} (t:Int) (k:Nat->Option R):List Nat->Option R
 | []=>none
 | i :: l=>cond (eqI t (natI (i+2))) (k i) (exK t k l)
def Yfa (f:Operand) (id:Nat) (slots exs:List Nat) (fx:List (FuncId × List FuncId × Spec)):CSpec where
 run fr m N k:=match ev fr f with
  | .fn gf .nil cap=>match listAV cap with
   | some l2=>match fxget gf (closOf l2++[1000000+id]) fx with
    | some s=>s.run (.yl N :: l2) ((N,.lp id slots (avList (slots.map fun t=>fget t fr)) 0) :: m) (N+1)
      (fun _ m' N'=>match mget N m' with
       | .lp _ _ _ t=>cond (eqI t 0) (k .normal fr ((N,.gone) :: m') N') (cond (eqI t 1) (k .ret fr ((N,.gone) :: m') N') (exK t (fun i=>k (.exit i) fr ((N,.gone) :: m') N') exs))
       | _=>none) (fun _ _ _=>none)
    | none=>none
   | none=>none
  | _=>none
section
variable {P:Program}
theorem Inv.grow {g:G} {X:Nat->Prop} {m:Mem} {w:World} (hI:Inv g X m w) (ob:Obj):Inv g X m (w.alloc ob)/\Ext g m w g m (w.alloc ob):=by
 have hs:(w.alloc ob).heap.size=w.heap.size+1:=by simp
 have hh:∀ b,b < w.heap.size->(w.alloc ob).heap[b]?=w.heap[b]?:=fun b hb=>by
  show (w.heap.push ob)[b]?=_;rw[Array.getElem?_push,if_neg (by omega)]
 have hx:Ext g m w g m (w.alloc ob):=⟨GExt.refl g,fun _ h=>.inl h,by omega,fun b hb _=>hh b hb,fun b hb=>.inl hb,rfl,rfl,rfl⟩
 refine ⟨hI.step hx (fun τ=>?_) hI.inj hI.far hI.fresh hI.dlt (MoLe.refl g m) (fun σ k=>.inl ⟨σ,k,rfl⟩),hx⟩;by_cases hd:g.dom τ
 ·exact .inl ⟨hd,rfl,fun hl=>hh _ (hI.heap_lt hl),fun i hl=>hh _ (hI.sb τ i hl).1⟩
 ·right; rw[hI.fresh τ hd]; trivial
theorem Inv.putL {g:G} {X:Nat->Prop} {m:Mem} {w:World} (hI:Inv g X m w) {l:Nat} {r:Loop} (hl:w.heap[l]?=some (.loop r)) (hn:¬ Own g m l) (ob:Obj):Inv g X m (w.putObj l ob):=by
 have hH:Holds w (okB X g m) (w.putObj l ob) (okB X g m):=fun b hb ⟨_,_,_,h⟩=>⟨hb,World.putObj_heap_other (fun e=>by subst e; rw[hl] at h; cases h)⟩
 refine ⟨fun τ=>?_,hI.inj,hI.far,fun b hb=>by rw[World.putObj_size]; exact hI.xlt b hb,hI.fresh,hI.dlt,fun τ i k=>by rw[World.putObj_size]; exact hI.sb τ i k⟩;by_cases hd:g.dom τ
 ·exact Y1 (GExt.refl g) hH hd (fun h1 h2=>World.putObj_heap_other (fun e=>hn (.inl ⟨τ,⟨h1,h2⟩,e⟩))) (fun i h1=>⟨rfl,fun h2=>World.putObj_heap_other (fun e=>hn (.inr ⟨τ,i,⟨h1,h2⟩,e⟩))⟩) (hI.ok τ)
 ·rw[hI.fresh τ hd]; trivial
theorem Yil {g:G} {w:World} {ok:Nat->Prop} {fr:Fr} {tmps:Array Value} (hf:FrOK g w ok fr tmps):∀ (sl:List Nat),RL g w ok (avList (sl.map fun t=>fget t fr)) (sl.map fun t=>tmps.getD t undef)
 | []=>rfl
 | t :: sl=>⟨_,_,rfl,hf t,Yil hf sl⟩
theorem DfOK.lt {b0:Nat} {w:World} {ok:Nat->Prop} {ds:List Deferred} (h:DfOK b0 w ok ds):∀ d ∈ ds,d.target ≠ .collected w.heap.size:=by
 intro d hd e;have:=Yb1 (h.at d hd _ e);omega
theorem Y6d {R:Type} {t:Int} {k:Nat->Option R} {r:R}:∀ (l:List Nat),exK t k l=some r->∃ i,t=natI (i+2)/\k i=some r
 | [],h=>by cases h
 | i :: l,h=>by
  simp only[exK] at h;cases hb:eqI t (natI (i+2)) with
  | true=>rw[hb] at h; exact ⟨i,by simpa[eqI] using hb,h⟩
  | false=>rw[hb] at h; exact Y6d l h
theorem Yfe {f:Operand} {ps:Array Tmp} {as body:Code} {id nt pin:Nat} (hrt:rtOf P id=some ⟨ps,as,body,nt⟩) {fx:List (FuncId × List FuncId × Spec)} (hfx:∀ f cl s,fxget f cl fx=some s->Sound P f s) (slots exs:List Nat) :
  CSound P ⟨nt,pin,true⟩ (.rangeFunc f ps as body) (Yfa f id slots exs fx):=by
 intro R fr m g k r X E a w hE hrun hst;simp only[Yfa] at hrun;split at hrun
 ·rename_i gf cap hv;split at hrun
  ·rename_i l2 hl2;split at hrun
   ·rename_i s hs;have hS:=hfx _ _ _ hs;obtain ⟨_,⟨fn,e1,e2,e3⟩,hcall⟩:=hS;refine wpIn_rangeFunc (fun fid _=>?_);have hrd:E.rd=none:=hE.rd rfl;rw[show (FR E.rd).round=none from hrd];have hx:=ev_ok hst.fr f;rw[hv] at hx;obtain ⟨fs,ks,q1,q2,q3⟩:=hx.2 rfl;have q1:fs=[]:=q1;subst q1;have q3:a.eval f=.func (.func gf) #[] ks.toArray:=by have:=(List.cons.inj q3).1; simpa using this
    -- the two blocks
    obtain ⟨hIa,hxa⟩:=hst.inv.grow (.deferred (some []))
    let rec0:Loop:={ state:=.ready,pending:=none,fn:=fid,tmps:=a.tmps,params:=ps,assign:=as,body:=body,defers:=w.heap.size }
    let L:Loc:=⟨w.heap.size+1,0,0,0,false⟩
    have hsa:(w.alloc (.deferred (some []))).heap.size=w.heap.size+1:=by simp
    generalize hwa:w.alloc (.deferred (some []))=wa at *;have hfra:FrOK g wa (okB X g m) fr a.tmps:=FrOK.mono (GExt.refl g) hxa.holds hst.fr;have hxb:Ext g m wa (g.new L) ((g.n,.lp id slots (avList (slots.map fun t=>fget t fr)) 0) :: m) (wa.alloc (.loop rec0)):=Ext.alloc hIa _ _ L (by rw[hsa])
    have hnewl:(wa.alloc (.loop rec0)).heap[w.heap.size+1]?=some (.loop rec0):=by
     have:=World.alloc_heap_new wa (.loop rec0); rwa [hsa] at this
    have hfrb:FrOK (g.new L) (wa.alloc (.loop rec0)) (okB X (g.new L) ((g.n,.lp id slots (avList (slots.map fun t=>fget t fr)) 0) :: m)) fr a.tmps:=FrOK.mono hxb.gx hxb.holds hfra;have hlocL:(g.new L).loc g.n=L:=G.new_self g L
    have hIb:Inv (g.new L) X ((g.n,.lp id slots (avList (slots.map fun t=>fget t fr)) 0) :: m) (wa.alloc (.loop rec0)):=by
     refine hIa.alloc _ _ L (by rw[hsa]) ?_;refine ⟨by rw[hlocL],⟨ps,as,body,nt⟩,fid,a.tmps,w.heap.size,.ready,none,_,?_,by rw[hlocL]; exact hnewl,hst.size.trans hE.nt,Yil hfrb slots,rfl,.inl ⟨rfl,rfl,rfl⟩⟩;show (g.new L).rt id=_;rw[show (g.new L).rt=g.rt from rfl,hst.rt,hE.rt,hrt]
    have hdD:(wa.alloc (.loop rec0)).heap[w.heap.size]?=some (.deferred (some [])):=by
     have h1:wa.heap[w.heap.size]?=some (.deferred (some [])):=by rw[<- hwa]; exact World.alloc_heap_new w _
     show (wa.heap.push _)[w.heap.size]?=_;rw[Array.getElem?_push,if_neg (by omega)]; exact h1
    generalize hwb:wa.alloc (.loop rec0)=wb at *;generalize hmb:(g.n,Blk.lp id slots (avList (slots.map fun t=>fget t fr)) 0) :: m=mb at *;have hyl:RV (g.new L) wb (okB X (g.new L) mb) (.yl g.n) (.func (.yield (w.heap.size+1)) #[] #[]):=⟨fun h=>(by cases h),fun _=>⟨.inr rfl,by rw[hlocL]⟩⟩
    have hks:ArgsOK (g.new L) wb (okB X (g.new L) mb) l2 ks:=(Ya8 cap l2 ks hl2 q2).mono (hxa.gx.trans hxb.gx) (fun b hb hc=>by
     obtain ⟨h1,h2⟩:=hxa.holds (X:=X) b hb hc;obtain ⟨c,e,f',h3⟩:=hc;obtain ⟨h4,h5⟩:=hxb.holds (X:=X) b h1 ⟨c,e,f',h2.trans h3⟩;exact ⟨h4,h5.trans h2⟩)
    have hcalls:=hcall _ mb (g.new L) _ _ r X wb _ hrun hIb (show g.rt=rtOf P from hst.rt.trans hE.rt) (show ArgsOK _ _ _ (.yl g.n :: l2) (_ :: ks) from ⟨hyl,hks⟩);have e5:fn.body.isNone=false:=by rw[Option.isNone_eq_false_iff]; exact e2
    have e6:(fn.name == "runtime.NumGoroutine")=false:=by simpa using e3
    refine ⟨w.heap.size+1,[{ target:=.collected w.heap.size,args:=#[] }],wb,{ target:=.fn (.func gf) ks.toArray,args:=#[.func (.yield (w.heap.size+1)) #[] #[]] },wb,gf,
     (Value.func (.yield (w.heap.size+1)) #[] #[] :: ks).toArray,wb,?_,?_,fun _ _=>trivial,?_,fun h=>(by cases h),?_⟩
    ·rw[run_enterLoop_outer,hwa,hwb]
    ·simp only[resolve,q3];simp[go_sem]
    ·simp only[invoke,callFunc];simp[go_sem,e1,e6,e5,run_program];rw[if_neg e3,if_neg (by intro h; rw[h] at e2; cases e2)]
    ·have hcI:CallsIn (FR E.rd) (0 - 1) P gf _ wb _:=callsIn_wide.2 hcalls;refine hcI.mono fun e w2 hpost=>?_
     have hxx:Ext g m w (g.new L) mb wb:=hxa.trans hxb;rcases hpost with ⟨v,m2,g2,cv,rfl,k1,k2,k3,k4⟩ | ⟨v,m2,g2,cv,rfl,k1,k2,k3,k4⟩
     ·simp only at k1;have hdg:(g.new L).dom g.n:=.inr rfl;have hl2:=(k4.gx.2 g.n hdg)
      have hB:=k2.ok g.n;split at k1
      ·rename_i id' sl' sv' t hmg;rw[hmg] at hB;obtain ⟨b1,rt,fn',tmps',D',st,pe,vs,b2,b3,b4,b5,b6,b7⟩:=hB;rw[hl2.2,hlocL] at b3;have hlv:Lv g2 m2 g.n:=⟨by rw[hmg]; rfl,b1⟩
       have hnb:st ≠ .busy:=by
        rcases b7 with ⟨_,h,_⟩ | ⟨_,h,_⟩ | ⟨_,_,h,_⟩ <;> rw[h] <;> intro e <;> cases e
       have hblkl:(g2.loc g.n).blk=w.heap.size+1:=by rw[hl2.2,hlocL]
       have hIk:=k2.kill g.n (k2.lt (by rw[hmg]; intro e; cases e));have hxk:Ext g2 m2 w2 g2 ((g.n,.gone) :: m2) w2:=Ext.kill g.n
       have hno:¬ Own g2 ((g.n,.gone) :: m2) (w.heap.size+1):=by
        rintro (⟨σ,h1,h2⟩ | ⟨σ,i,h1,h2⟩)
        ·obtain ⟨h3,h4⟩:=Yc rfl h1;exact h4 (k2.inj σ g.n h3 hlv (by rw[h2,hblkl]))
        ·have h3:=((MoLe.cons (fun _=>rfl) rfl).sb h1).1;exact (k2.sb σ i h3).2.2.1 g.n hlv (by rw[h2,hblkl])
       have hI3:=hIk.putL b3 hno (.loop { state:=.exhausted,pending:=pe,fn:=fn',tmps:=tmps',params:=rt.ps,assign:=rt.as,body:=rt.body,defers:=D' });have hend:=run_endLoop (P:=P) b3 hnb;have hlt3:=Yb1 b3;generalize hw3:w2.putObj (w.heap.size+1) (.loop { state:=.exhausted,pending:=pe,fn:=fn',tmps:=tmps',params:=rt.ps,assign:=rt.as,body:=rt.body,defers:=D' })=w3 at *;have hs3:w3.heap.size=w2.heap.size:=by rw[<- hw3]; exact World.putObj_size
       have hx3:Ext g m w g2 ((g.n,.gone) :: m2) w3:=by
        have h1:=(hxx.trans k4).trans hxk;refine ⟨h1.gx,h1.nw,by rw[hs3]; exact h1.size,fun b hb hn=>?_,h1.own,?_,?_,?_⟩
        ·rw[<- hw3,World.putObj_heap_other (by omega)]; exact h1.keep b hb hn
        ·rw[<- hw3]; exact h1.os
        ·rw[<- hw3]; exact h1.tape
        ·rw[<- hw3]; exact h1.output
       have hfr3:FrOK g2 w3 (okB X g2 ((g.n,.gone) :: m2)) fr a.tmps:=FrOK.mono hx3.gx hx3.holds hst.fr
       have hownB:¬ Own (g.new L) mb w.heap.size:=by
        rintro (⟨σ,p1,p2⟩ | ⟨σ,i,p1,p2⟩)
        ·by_cases e:σ=g.n
         ·subst e; rw[hlocL] at p2; simp[L] at p2
         ·rw[g.new_old L e] at p2;have:=hst.inv.heap_lt (Lv_new (by rw[<- hmb] at p1; exact p1) e); omega
        ·have p3:Sb g m σ i:=((MoLe.cons (fun _=>rfl) rfl).sb (by rw[<- hmb] at p1; exact p1)).1;have:=(hst.inv.sb σ i p3).1;have p2:(g.sub σ i).blk=w.heap.size:=p2;omega
       have hownD:¬ Own g2 ((g.n,.gone) :: m2) w.heap.size:=by
        intro h;have h1:=(hxk.own _ h)
        rcases h1 with h1 | h1
        ·rcases k4.own _ h1 with h2 | h2
         ·exact hownB h2
         ·have h4:=hxb.size;have:w.heap.size+1 <= wb.heap.size:=by omega
          omega
        ·have h4:=k4.size;have h5:=hxb.size;omega
       have hDw:w3.heap[w.heap.size]?=some (.deferred (some [])):=by
        rw[<- hw3,World.putObj_heap_other (by omega)];have h5:=hxb.size;rw[k4.keep w.heap.size (by omega) hownB];exact hdD
       have hstF:StOK g2 X E fr ((g.n,.gone) :: m2) { a with defers:=[{ target:=.collected w.heap.size,args:=#[] }]++a.defers } w3:=by
        refine ⟨hI3,hfr3,hst.size,⟨⟨w.heap.size,rfl,hst.b0,⟨fun h=>?_,hownD⟩,hDw,hst.defers.lt⟩,hst.defers.mono hx3.stays⟩,hx3.gx.1.2.trans hst.rt,Nat.le_trans hst.b0 hx3.size⟩;have:=hst.inv.xlt _ h; omega
       refine ⟨pe,w3,hend,?_⟩;rcases b7 with ⟨rfl,_,rfl⟩ | ⟨rfl,_,rfl⟩ | ⟨i,rfl,_,rfl⟩
       ·exact ⟨.normal,fr,_,g2,rfl,k1,hstF,hx3.to0⟩
       ·exact wpIn_ret ⟨.ret,fr,_,g2,rfl,k1,hstF,hx3.to0⟩
       ·have e0:eqI (2+(i:Int)) 0=false:=by unfold eqI; simp; omega
        have e1':eqI (2+(i:Int)) 1=false:=by unfold eqI; simp; omega
        rw[e0,e1'] at k1;obtain ⟨j,hj,k1⟩:=Y6d exs k1;have hij:i=j:=by unfold natI at hj; omega
        subst hij;exact wpIn_exit ⟨.exit i,fr,_,g2,rfl,k1,hstF,hx3.to0⟩
      ·cases k1
     ·cases k1
   ·cases hrun
  ·cases hrun
 ·cases hrun
end
end Go.Proofs.YtifbgkikkiallaaGreat.VX

