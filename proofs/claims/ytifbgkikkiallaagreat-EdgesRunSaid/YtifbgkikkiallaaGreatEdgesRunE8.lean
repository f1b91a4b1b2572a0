import Derived.Test.YtifbgkikkiallaaGreatEdgesRunE7
import Derived.Laws.Cover3
set_option linter.unusedVariables false
set_option linter.unusedSimpArgs false
namespace Go.Proofs.YtifbgkikkiallaaGreat.VX
section
variable {P:Program} {C:Ctx} {X:Nat->Prop} {R:Type} {o:Oper} {a:Act} {w:World} {g:G} {m:Mem} {k kp:AV->Mem->Nat->Option R} {r:R} {fr:Fr}
theorem Y2g:∀ {l l':List Nat},beqNs l l'=true->l=l'
 | [],[],_=>rfl
 | a :: l,b :: l',h=>by
  rw[show beqNs (a :: l) (b :: l')=(Nat.beq a b && beqNs l l') from rfl,ba9] at h;rw[eb9 h.1,Y2g h.2]
 | [],_ :: _,h=>by cases h
 | _ :: _,[],h=>by cases h
theorem aop_ok (hC:CtxOK P C) (hI:Inv g X m w) (hrt:g.rt=rtOf P) (hf:FrOK g w (okB X g m) fr a.tmps) (h:aop C o.op o.type fr m g.n k kp=some r):OpR P X o a w g m k kp r:=by
 generalize hop:o.op=op at h;unfold aop at h;split at h
 ·exact Yca (.inl hop) hI hf h
 ·exact Yca (.inr hop) hI hf h
 ·split at h
  ·rename_i hc; exact Yei hop hI hf hc h
  ·cases h
 ·split at h
  ·rename_i i hi; exact Y1j hop (hC.tb _ _ hi) hI h
  ·cases h
 ·obtain ⟨h1,h2⟩:=Y2j h; exact box_ok hop hI hf h1 h2
 ·split at h
  ·rename_i i hi;obtain ⟨h1,h⟩:=Y2j h;rw[ba9] at h1;split at h
   ·rename_i v hv;obtain ⟨h2,h⟩:=Y2j h;exact Y2z hop (hC.tb _ _ hi) hI hf (by simpa using h1.1) h1.2 hv h2 h
   ·cases h
  ·cases h
 ·split at h
  ·rename_i i hi;split at h
   ·rename_i xs hx;obtain ⟨h1,h⟩:=Y2j h;exact Y2y hop (hC.tb _ _ hi) hI hf hx h1 h
   ·cases h
  ·cases h
 ·split at h
  ·rename_i i hi; exact Yab hop (hC.tb _ _ hi) hI hf h
  ·cases h
 ·split at h
  ·rename_i i hi;obtain ⟨h1,h⟩:=Y2j h;exact Yje hop (hC.tb _ _ hi) hI hf (eb9 h1) h
  ·cases h
 ·rename_i op' t x y t';have hx:=ev_ok hf x;have hy:=ev_ok hf y;generalize ev fr x=u at *;generalize ev fr y=v at *;split at h
  ·exact Y99 hop hI hx hy h
  ·exact Yjg hop hI hx hy h
  ·split at h
   ·rename_i i hi;obtain ⟨h1,h⟩:=Y2j h;rw[ba9] at h1;split at h
    ·rename_i p q hp hq;exact Y68 (hC.tb _ _ hi) hop hI hx hy h1.1 h1.2 hp hq h
    ·cases h
   ·cases h
 ·rename_i t x;have hx:=ev_ok hf x;split at h
  ·rename_i b hb; rw[hb] at hx; exact not_ok hop hI hx h
  ·cases h
 ·split at h
  ·rename_i i hi; exact Y6j hop (hC.tb _ _ hi) hI hf h
  ·cases h
 ·split at h
  ·rename_i i hi; exact Y6k hop (hC.tb _ _ hi) hI hf h
  ·cases h
 ·split at h
  ·rename_i i hi; exact Y8v hop (hC.tb _ _ hi) hI hf h
  ·cases h
 ·split at h
  ·rename_i i hi; exact Y93 hop (hC.tb _ _ hi) hI hf h
  ·cases h
 ·rename_i t i;have hx:=ev_ok hf t;split at h
  ·rename_i vs hv; rw[hv] at hx;obtain ⟨h1,h⟩:=Y2j h;exact Y6h hop hI hx h1 h
  ·cases h
 ·exact Yb6 hop hI hf h
 ·split at h
  ·rename_i i hi; exact Yia hop (hC.tb _ _ hi) hI hf h
  ·cases h
 ·rename_i t x lo hi mx;have hx:=ev_ok hf x;split at h
  ·rename_i i hi;split at h
   ·rename_i e xs hq;rw[hq] at hx;obtain ⟨hb,h⟩:=Y2j h;split at h
    ·rename_i l hh q e1 e2 e3;exact Yib hop (hC.tb _ _ hi) hI hf hx hb e1 e2 e3 h
    ·cases h
   ·cases h
  ·cases h
 ·rename_i t x y;have hx:=ev_ok hf x;have hy:=ev_ok hf y;split at h
  ·rename_i i k1 n k2 c hi hn hc;rw[hn] at hx;rw[hc] at hy;exact Yba hop (hC.tb _ _ hi) hI hx hy h
  ·cases h
 ·rename_i s t x;have hx:=ev_ok hf x;split at h
  ·rename_i i i2 kk n hi hi2 hn;rw[hn] at hx;split at h
   ·rename_i kd hty;obtain ⟨h1,h⟩:=Y2j h;obtain ⟨d,hd,_⟩:=(hC.tb _ _ hi2).desc;exact Y4w hop (hC.tb _ _ hi) ⟨d,hd⟩ hI hx hty (eb9 h1) h
   ·cases h
  ·cases h
 ·exact Ycr hop hI hf h
 ·split at h
  ·rename_i i hi; exact Yb7 hop (hC.tb _ _ hi) hI hf h
  ·cases h
 ·split at h
  ·rename_i i hi; exact Yk2 hop (hC.tb _ _ hi) hI hf h
  ·cases h
 ·exact Ye7 hop hI hf h
 ·split at h
  ·rename_i i hi; exact (bif3 h).elim (Yb9 hop (hC.tb _ _ hi) hI hf) (Yc6 hop (hC.tb _ _ hi) hI hf)
  ·cases h
 ·split at h
  ·rename_i i hi; exact (bif3 h).elim (Yao hop (hC.tb _ _ hi) hI hf) (Yc4 hop (hC.tb _ _ hi) hI hf)
  ·cases h
 ·split at h
  ·rename_i i hi; exact (bif3 h).elim (Ybd (.inl hop) (hC.tb _ _ hi) hI hf) (Yc8 (.inl hop) (hC.tb _ _ hi) hI hf)
  ·cases h
 ·split at h
  ·rename_i i hi; exact (bif3 h).elim (Ybd (.inr hop) (hC.tb _ _ hi) hI hf) (Yc8 (.inr hop) (hC.tb _ _ hi) hI hf)
  ·cases h
 ·split at h
  ·rename_i i hi; exact Ybb hop (hC.tb _ _ hi) hI hf h
  ·cases h
 ·split at h
  ·rename_i i hi; exact Y66 hop (hC.tb _ _ hi) hI hf h
  ·cases h
 ·rename_i c;split at h
  ·rename_i hc;split at h
   ·rename_i x t hx ht;split at h
    ·rename_i i hi;obtain ⟨h1,h2⟩:=Y2j h;split at h2
     ·rename_i τ lo n xs hd;exact Y3t hop hc hx ht (hC.tb _ _ hi) hI hf h1 hd h2
     ·cases h2
    ·cases h
   ·cases h
  ·rename_i hc;split at h
   ·rename_i x y t u hx ht;split at h
    ·rename_i i j hi hj;obtain ⟨h1,h2⟩:=Y2j h;split at h2
     ·rename_i τ xs ys hq hy;exact Y1t hop hc hx ht (hC.tb _ _ hi) (hC.tb _ _ hj) hI hf h1 hq hy (fun σ e=>by cases e; exact h2) (fun e=>by cases e)
     ·rename_i xs ys hq hy;exact Y1t hop hc hx ht (hC.tb _ _ hi) (hC.tb _ _ hj) hI hf h1 hq hy (fun σ e=>by cases e) (fun _=>h2)
     ·cases h2
    ·cases h
   ·cases h
  ·rename_i hc;split at h
   ·rename_i x y t u hx ht;split at h
    ·rename_i i hi;obtain ⟨h1,h2⟩:=Y2j h;cases hva:isVa (ev fr x) with
     | true =>
      rw[hva,cond_true] at h2;split at h2
      ·rename_i ys hy;exact Y4x hop hc hx ht (hC.tb _ _ hi) hI hf h1 hy h2
      ·cases h2
     | false =>
      rw[hva,cond_false] at h2;split at h2
      ·rename_i τ lo n xs ys hq hy;exact Y4z hop hc hx ht (hC.tb _ _ hi) hI hf h1 hq hy h2
      ·cases h2
    ·cases h
   ·cases h
  ·rename_i hc;split at h
   ·rename_i x y hx;have hxv:=ev_ok hf x;have hyv:=ev_ok hf y;split at h
    ·rename_i kx p ky q e1 e2;rw[e1] at hxv;rw[e2] at hyv;exact Ybx hop hc hx hI hxv hyv (.inl ⟨rfl,rfl⟩) h
    ·cases h
   ·cases h
  ·rename_i hc;split at h
   ·rename_i x y hx;have hxv:=ev_ok hf x;have hyv:=ev_ok hf y;split at h
    ·rename_i kx p ky q e1 e2;rw[e1] at hxv;rw[e2] at hyv;exact Ybx hop hc hx hI hxv hyv (.inr ⟨rfl,rfl⟩) h
    ·cases h
   ·cases h
  ·rename_i hc;split at h
   ·rename_i x t hx ht;split at h
    ·rename_i i hi;split at h
     ·rename_i n hn; exact len_ok hop hc hx ht (hC.tb _ _ hi) hI hf hn h
     ·cases h
    ·cases h
   ·cases h
  ·rename_i f hc;split at h
   ·rename_i gf first cap hv
    split at h
    ·rename_i l1 l2 h1 h2;simp only at h;split at h
     ·rename_i s hs; exact Y34 hop hc hv h1 h2 (hC.fx _ _ _ hs) hI hrt hf h
     ·rw[hC.miss] at h; cases h
    ·cases h
   ·rename_i τ hv;split at h
    ·rename_i id slots sv tag hm;split at h
     ·rename_i sl s l hs hl;obtain ⟨h1,h9⟩:=Y2j h;clear h;rw[ba9] at h1;have ht:tag=0:=by simpa using h1.1
      subst ht;have he:=Y2g h1.2;subst he;exact Yks hop hc hv hm (hC.ys _ _ _ hs) hl hI hrt hf h9
     ·cases h
    ·cases h
   ·cases h
  ·cases h
 ·cases h
theorem Y1l {x y:Option R} {r:R} (h:amb x y=some r):x=some r/\y=some r:=by
 unfold amb at h;split at h
 ·rename_i e; exact ⟨h,e ▸ h⟩
 ·cases h
theorem Y6a (hI:Inv g X m w) {q:Bool->Option R} {v:AV} {cv:Value} (hv:RV g w (okB X g m) v cv) (h:eqNilA m q v=some r):∃ ad len cap,cv=.slice ad len cap/\q ad.isNone=some r:=by
 have dat:∀ (t:Ty) (xs:List t.T),RV g w (okB X g m) (.d (.slice t) xs) cv->(bif Nat.beq (lenL t xs) 0 then amb (q true) (q false) else q false)=some r->∃ ad len cap,cv=.slice ad len cap/\q ad.isNone=some r:=by
  intro t xs hx hh;obtain ⟨ad,cap,e1,_,e3⟩:=hx.2 rfl;refine ⟨ad,_,cap,(List.cons.inj e1).1,?_⟩;cases hb:Nat.beq (lenL t xs) 0 with
  | true =>
   rw[hb] at hh;obtain ⟨h1,h2⟩:=Y1l hh;cases ad with
   | none=>exact h1
   | some b=>exact h2
  | false =>
   rw[hb] at hh;rcases e3 with e3 | ⟨b,cells,rfl,_⟩
   ·rw[e3] at hb; cases hb
   ·exact hh
 cases v with
 | nl=>exact ⟨none,0,0,(List.cons.inj (hv.2 rfl)).1,h⟩
 | d t xs =>
  cases t with
  | slice t=>exact dat t xs hv h
  | _=>cases h
 | sl τ =>
  simp only[eqNilA] at h;cases hm:mget τ m with
  | row t xs =>
   rw[hm] at h;simp only at h;have hr:=Yg6 hI hm hv;obtain ⟨ad,e1,e2⟩:=hr.val;refine ⟨ad,_,_,e1,?_⟩;cases hb:Nat.beq (lenL t xs) 0 with
   | true =>
    rw[hb] at h;obtain ⟨h1,h2⟩:=Y1l h;cases ad with
    | none=>exact h1
    | some b=>exact h2
   | false =>
    rw[hb] at h;rcases e2 with ⟨_,_,_,e3⟩ | ⟨_,off,c,e,cells,rfl,_⟩
    ·rw[e3] at hb; cases hb
    ·exact h
  | frz t xs=>rw[hm] at h; exact dat t xs (frz_rv hI hm hv) h
  | _=>rw[hm] at h; cases h
 | _=>cases h
theorem Y1n (hC:CtxOK P C) (hI:Inv g X m w) (hrt:g.rt=rtOf P) (hf:FrOK g w (okB X g m) fr a.tmps) (h:aopX C o.op o.type fr m g.n k kp=some r):OpR P X o a w g m k kp r:=by
 have nil:∀ {y:Operand},isNilC y=true->a.eval y=.slice none 0 0:=by
  intro y hy;unfold isNilC at hy;split at hy
  ·rfl
  ·cases hy
 unfold aopX at h;split at h
 ·rename_i t x y u hop;cases hb:isNilC y with
  | false=>rw[hb] at h; exact aop_ok hC hI hrt hf (by rw[hop]; exact h)
  | true =>
   rw[hb] at h;simp only[cond_true] at h;split at h
   ·rename_i i hi;obtain ⟨h1,h2⟩:=Y2j h;obtain ⟨ad,len,cap,e1,e2⟩:=Y6a hI (ev_ok hf x) h2;obtain ⟨e,fi,ez,k1,_⟩:=(hC.tb _ _ hi).slice (eb9 h1);refine OpR.value (cv:=.bool ad.isNone) ?_ e2 hI (Y2w _) (Ext.refl _ _ _)
    have hg:(eqGuard .eql t x y (.slice ad len cap) (.slice none 0 0)).run P w=.ok () w:=by
     unfold eqGuard; simp
    have heq:=run_equal_slice_nil (P:=P) w t e ad len cap k1;unfold execOp;simp[hop,hg,e1,nil hb,binOp,heq]
   ·cases h
 ·rename_i t x y u hop;cases hb:isNilC y with
  | false=>rw[hb] at h; exact aop_ok hC hI hrt hf (by rw[hop]; exact h)
  | true =>
   rw[hb] at h;simp only[cond_true] at h;split at h
   ·rename_i i hi;obtain ⟨h1,h2⟩:=Y2j h;obtain ⟨ad,len,cap,e1,e2⟩:=Y6a hI (ev_ok hf x) h2;obtain ⟨e,fi,ez,k1,_⟩:=(hC.tb _ _ hi).slice (eb9 h1);refine OpR.value (cv:=.bool (!ad.isNone)) ?_ e2 hI (Y2w _) (Ext.refl _ _ _)
    have hg:(eqGuard .neq t x y (.slice ad len cap) (.slice none 0 0)).run P w=.ok () w:=by
     unfold eqGuard; simp
    have heq:=run_equal_slice_nil (P:=P) w t e ad len cap k1;unfold execOp;simp[hop,hg,e1,nil hb,binOp,heq]
   ·cases h
 ·exact aop_ok hC hI hrt hf h
def ExR (g:G) (w:World) (ok:Nat->Prop):Ex->Exit->Prop
 | .normal,e=>e=.normal
 | .exit i,e=>e=.exit i
 | .goto l,e=>e=.goto l
 | .ret,e=>e=.ret
 | .panic v,e=>∃ cv,e=.panic [{ v:=cv,recovered:=false }]/\RV g w ok v cv
structure EK where
 nt:Nat
 pin:Nat
 nr:Bool
def Ctx.ek (C:Ctx):EK:=⟨C.nt,C.pin,C.nr⟩
structure EnvOK (P:Program) (ek:EK) (E:Env):Prop where
 nt:E.nt=ek.nt
 pin:E.pin=ek.pin
 rd:ek.nr=true->E.rd=none
 rt:E.rt=rtOf P
def PostK (X:Nat->Prop) (E:Env) (g:G) (m:Mem) (w:World) (k:Ex->Fr->Mem->Nat->Option R) (r:R) (e:Exit) (a':Act) (w':World):Prop :=
 ∃ e' fr' m' g',ExR g' w' (okB X g' m') e' e/\k e' fr' m' g'.n=some r/\StOK g' X E fr' m' a' w'/\Ext0 E.pin g m w g' m' w'
theorem PostK.trans {E:Env} {k:Ex->Fr->Mem->Nat->Option R} {g1:G} {m1:Mem} {w1:World} (hx:Ext0 E.pin g m w g1 m1 w1) {e:Exit} {a':Act} {w':World} (h:PostK X E g1 m1 w1 k r e a' w'):PostK X E g m w k r e a' w':=by
 obtain ⟨e',fr',m',g',h1,h2,h3,h4⟩:=h;exact ⟨e',fr',m',g',h1,h2,h3,hx.trans h4⟩
theorem Yf6 (a:Act) (d:Option Tmp) (v:Value):(a.put d v).tmps.size=a.tmps.size:=by cases d <;> simp[Act.put]
theorem Yf1 (a:Act) (d:Option Tmp) (v:Value):(a.put d v).defers=a.defers:=by cases d <;> rfl
theorem Yfd (n j:Nat) (h:j < n):(List.range n).drop j=j :: (List.range n).drop (j+1):=by
 rw[List.drop_eq_getElem_cons (by simpa using h)]; simp
theorem Y1q (hC:CtxOK P C) {E:Env} (hE:EnvOK P C.ek E) (all:Array Oper) {k:Fr->Mem->Nat->Option R} {kx:Ex->Fr->Mem->Nat->Option R} (Q:Exit->Act->World->Prop):∀ (l:List Oper) (j:Nat),l=all.toList.drop j->j+l.length=all.size ->
  ∀ (fr:Fr) (m:Mem) (g:G) (a:Act) (w:World),aops C all l fr m g.n k kx=some r->StOK g X E fr m a w ->
  (∀ fr' m' g' a' w',k fr' m' g'.n=some r->StOK g' X E fr' m' a' w'->Ext g m w g' m' w'->Q .normal a' w') ->
  (∀ v fr' m' g' a' w' cv,kx (.panic v) fr' m' g'.n=some r->StOK g' X E fr' m' a' w'->RV g' w' (okB X g' m') v cv->Ext g m w g' m' w'->Q (.panic [{ v:=cv,recovered:=false }]) a' w') ->
  wpOpsIn (FR E.rd) 0 P all Q ((List.range all.size).drop j) a w
 | [],j,hl,hj,fr,m,g,a,w,h,hst,hk,hp=>by
  rw[List.drop_of_length_le (by simp at hj ⊢; omega)];exact hk fr m g a w h hst (Ext.refl _ _ _)
 | o :: l,j,hl,hj,fr,m,g,a,w,h,hst,hk,hp=>by
  simp only[List.length_cons] at hj;rw[Yfd _ _ (by omega)];have hlt:j < all.toList.length:=by simp; omega
  have hoj:all[j]?=some o:=by
   have h1:all.toList[j]?=some o:=by
    have:=congrArg (fun x=>x[0]?) hl;simp at this;simpa using this.symm
   simpa using h1
  have hl2:l=all.toList.drop (j+1):=by
   have:=congrArg List.tail hl;simpa using this
  have next:∀ (v:AV) (cv:Value) (m':Mem) (g':G) (w':World) (frx:Fr),(match o.dst with
     | some d=>bif Nat.blt d C.nt then aops C all l ((d,v) :: frx) m' g'.n k kx else none
     | none=>aops C all l frx m' g'.n k kx)=some r->FrOK g w (okB X g m) frx a.tmps->Inv g' X m' w'->RV g' w' (okB X g' m') v cv->Ext g m w g' m' w'->wpOpsIn (FR E.rd) 0 P all Q ((List.range all.size).drop (j+1)) (a.put o.dst cv) w':=by
   intro v cv m' g' w' frx hh hfx hI' hv' hx';have hfr':FrOK g' w' (okB X g' m') frx a.tmps:=FrOK.mono hx'.gx hx'.holds hfx;cases hd:o.dst with
   | none =>
    rw[hd] at hh;refine Y1q hC hE all Q l (j+1) hl2 (by omega) frx m' g' _ w' hh ⟨hI',by simpa[Act.put] using hfr',by rw[Yf6]; exact hst.size,by rw[Yf1]; exact hst.defers.mono hx'.stays,hx'.gx.1.2.trans hst.rt,Nat.le_trans hst.b0 hx'.size⟩ ?_ ?_
    ·intro fr2 m2 g2 a2 w2 q1 q2 q3; exact hk fr2 m2 g2 a2 w2 q1 q2 (hx'.trans q3)
    ·intro v2 fr2 m2 g2 a2 w2 cv2 q1 q2 q3 q4; exact hp v2 fr2 m2 g2 a2 w2 cv2 q1 q2 q3 (hx'.trans q4)
   | some d =>
    rw[hd] at hh;obtain ⟨hd1,hh⟩:=Y2j hh;have hdn:d < a.tmps.size:=by rw[hst.size,show E.nt=C.nt from hE.nt]; simpa using hd1
    refine Y1q hC hE all Q l (j+1) hl2 (by omega) ((d,v) :: frx) m' g' _ w' hh ⟨hI',?_,by rw[Yf6]; exact hst.size,by rw[Yf1]; exact hst.defers.mono hx'.stays,hx'.gx.1.2.trans hst.rt,Nat.le_trans hst.b0 hx'.size⟩ ?_ ?_
    ·exact hfr'.set hdn hv'
    ·intro fr2 m2 g2 a2 w2 q1 q2 q3; exact hk fr2 m2 g2 a2 w2 q1 q2 (hx'.trans q3)
    ·intro v2 fr2 m2 g2 a2 w2 cv2 q1 q2 q3 q4; exact hp v2 fr2 m2 g2 a2 w2 cv2 q1 q2 q3 (hx'.trans q4)
  have run:∀ frx,FrOK g w (okB X g m) frx a.tmps->aopX C o.op o.type frx m g.n (fun v m N=>v.force fun v =>
    match o.dst with
    | some d=>bif Nat.blt d C.nt then aops C all l ((d,v) :: frx) m N k kx else none
    | none=>aops C all l frx m N k kx) (fun v m N=>kx (.panic v) frx m N)=some r->o.wpIn (FR E.rd) 0 P a w (wpOpsIn (FR E.rd) 0 P all Q ((List.range all.size).drop (j+1))) Q:=by
   intro frx hfx hh;refine Y1n hC hst.inv (hst.rt.trans hE.rt) hfx hh E.rd _ Q ?_ ?_
   ·intro v m' g' cv w' q1 q2 q3 q4;exact next v cv m' g' w' frx (Y7k q1) hfx q2 q3 q4
   ·intro v m' g' cv w' q1 q2 q3 q4;exact hp v frx m' g' a w' cv q1 ⟨q2,FrOK.mono q4.gx q4.holds hfx,hst.size,hst.defers.mono q4.stays,q4.gx.1.2.trans hst.rt,Nat.le_trans hst.b0 q4.size⟩ q3 q4
  have skp:∀ frx,FrOK g w (okB X g m) frx a.tmps->(match o.dst with
     | some d=>bif Nat.blt d C.nt then aops C all l ((d,.tu .nil) :: frx) m g.n k kx else none
     | none=>aops C all l frx m g.n k kx)=some r->wpOpsIn (FR E.rd) 0 P all Q ((List.range all.size).drop (j+1)) (a.put o.dst undef) w:=by
   intro frx hfx hh;exact next (.tu .nil) undef m g w frx hh hfx hst.inv ⟨fun h=>(by cases h),fun _=>⟨[],rfl,rfl⟩⟩ (Ext.refl _ _ _)
  simp only[aops] at h;simp only[wpOpsIn,hoj];cases hgd:o.guard with
  | none =>
   rw[hgd] at h;have hwant:Region.wanted o (yielded all a.tmps)=true:=by simp[Region.wanted,hgd]
   rw[if_pos hwant];exact (run fr hst.fr h)
  | some jw =>
   obtain ⟨j',want⟩:=jw;rw[hgd] at h;simp only at h;cases hgs:Y8f all j' with
   | none=>rw[hgs] at h; cases h
   | some gs =>
    rw[hgs] at h;simp only at h;obtain ⟨hlt',h⟩:=Y2j h;have hgn:gs < a.tmps.size:=by rw[hst.size,show E.nt=C.nt from hE.nt]; simpa using hlt'
    have hgv:=hst.fr gs
    have hy:yielded all a.tmps j'=(match a.tmps.getD gs undef with | .bool b=>some b | _=>none):=by
     unfold Y8f at hgs;simp only[yielded,hgs,Option.bind_some];rw[Array.getElem?_eq_getElem hgn];have hgd2:a.tmps.getD gs undef=a.tmps[gs]:=by simp[Array.getD,hgn]
     rw[hgd2];generalize a.tmps[gs]=u;cases u <;> rfl
    cases hq:fget gs fr with
    | d ty b =>
     cases ty with
     | bool =>
      rw[hq] at h hgv;have hb:=Y2v hgv;rw[hb] at hy
      have hset:FrOK g w (okB X g m) ((gs,.d .bool b) :: fr) a.tmps:=by
       intro t;rw[Y6i];split
       ·rename_i e; subst e; rw[hb]; exact Y2w b
       ·exact hst.fr t
      cases b with
      | true =>
       simp only[cond_true] at h;cases want with
       | true=>rw[if_pos (by simp[Region.wanted,hgd,hy])]; exact (run _ hset h)
       | false=>rw[if_neg (by simp[Region.wanted,hgd,hy])]; exact ⟨fun _ _=>trivial,skp _ hset h⟩
      | false =>
       simp only[cond_false] at h;cases want with
       | true=>rw[if_neg (by simp[Region.wanted,hgd,hy])]; exact ⟨fun _ _=>trivial,skp _ hset h⟩
       | false=>rw[if_pos (by simp[Region.wanted,hgd,hy])]; exact (run _ hset h)
     | _=>rw[hq] at h; cases h
    | tu vs =>
     cases vs with
     | nil =>
      rw[hq] at h hgv;obtain ⟨l',h1,h2⟩:=hgv.2 rfl;cases h1;have hu:a.tmps.getD gs undef=.tuple #[]:=(List.cons.inj h2).1;rw[hu] at hy;rw[if_neg (by simp[Region.wanted,hgd,hy])];exact ⟨fun _ _=>trivial,skp _ hst.fr h⟩
     | _=>rw[hq] at h; cases h
    | _=>rw[hq] at h; cases h
end
section
variable {C:Ctx} {m:Mem}
theorem Yaa {R:Type} {k:AV->Option R} {r:R} {x:AV} (h:loadA m k x=some r):∃ v,∀ {R':Type} (k':AV->Option R'),loadA m k' x=k' v:=by
 cases x with
 | ptr τ p =>
  simp only[loadA] at h ⊢;cases hm:mget τ m with
  | var v =>
   rw[hm] at h;simp only at h ⊢;cases hg:v.get p with
   | none=>rw[hg] at h; cases h
   | some x=>exact ⟨x,fun k'=>rfl⟩
  | row t xs =>
   rw[hm] at h;simp only at h ⊢;cases p with
   | nil=>cases h
   | cons s q =>
    cases s with
    | row i sz =>
     simp only at h ⊢;cases hb:Nat.beq sz t.size with
     | false=>rw[hb] at h; cases h
     | true =>
      rw[hb] at h;simp only[cond_true] at h ⊢;cases hg:(AV.d t (getAt t.zero xs i)).get q with
      | none=>rw[hg] at h; cases h
      | some x=>exact ⟨x,fun k'=>rfl⟩
    | _=>cases h
  | _=>rw[hm] at h; cases h
 | pv t x=>exact ⟨_,fun k'=>rfl⟩
 | _=>cases h
theorem Yc3 {kt t:Ty} {τ:Nat} {l:List (kt.T × List t.T)} {m1:Mem} (h:moBack m kt t τ=some (l,m1)):∃ δ,m1=δ++m:=by
 unfold moBack at h;split at h
 ·cases h; exact ⟨[],rfl⟩
 ·rename_i l0 σ i e;cases hb:Nat.beq σ τ with
  | true=>rw[hb] at h; cases h
  | false =>
   rw[hb,cond_false] at h;split at h
   ·rename_i xs hr;cases h;exact ⟨[(τ,.mo kt t (mset l0 i xs) none),(σ,.gone)],rfl⟩
   ·cases h
 ·cases h
theorem Yc5 {R:Type} {key:AV} {N:Nat} {kt ety:Ty} {k:AV->Mem->Nat->Option R} {r:R} {x:AV} (h:moLook key m N kt ety k x=some r) :
  ∃ v δ N',∀ {R':Type} (k':AV->Mem->Nat->Option R'),moLook key m N kt ety k' x=k' v (δ++m) N':=by
 cases x with
 | mp τ =>
  cases ety with
  | slice t =>
   simp only[moLook] at h ⊢;split at h
   ·rename_i y l m1 e1 e2;obtain ⟨δ,rfl⟩:=Yc3 e2;cases hb:mhasR y l with
    | true=>exact ⟨.sl N,(N,.row t (mlookR y l)) :: (τ,.mo kt t l (some (N,mposR y l))) :: δ,N+1,fun k'=>by simp only[e1,e2,hb,cond_true]; rfl⟩
    | false=>exact ⟨.nl,δ,N,fun k'=>by simp only[e1,e2,hb,cond_false]⟩
   ·cases h
  | _=>cases h
 | _=>cases h
theorem Yc9 {R:Type} {key v:AV} {N:Nat} {kt ety:Ty} {k:AV->Mem->Nat->Option R} {r:R} {x:AV} (h:moPut key v m N kt ety k x=some r) :
  ∃ δ,∀ {R':Type} (k':AV->Mem->Nat->Option R'),moPut key v m N kt ety k' x=k' .dead (δ++m) N:=by
 cases x with
 | mp τ =>
  cases ety with
  | slice t =>
   cases v with
   | sl σ =>
    simp only[moPut] at h ⊢;split at h
    ·rename_i y l hh ys e1 e2 e3;obtain ⟨h1,_⟩:=Y2j h;exact ⟨[(τ,.mo kt t (mputR y ys l) none),(σ,.gone)],fun k'=>by simp only[e1,e2,e3,h1,cond_true]; rfl⟩
    ·cases h
   | _=>cases h
  | _=>cases h
 | _=>cases h
theorem Yc7 {R:Type} {N:Nat} {kt ety:Ty} {k:AV->Mem->Nat->Option R} {r:R} (h:moNew m N kt ety k=some r) :
  ∃ δ,∀ {R':Type} (k':AV->Mem->Nat->Option R'),moNew m N kt ety k'=k' (.mp N) (δ++m) (N+1):=by
 cases ety with
 | slice t=>exact ⟨[(N,.mo kt t [] none)],fun k'=>rfl⟩
 | _=>cases h
theorem Yjf {R:Type} {k:Mem->Option R} {r:R} {x y:AV} (h:storeA m y k x=some r):∃ δ,∀ {R':Type} (k':Mem->Option R'),storeA m y k' x=k' (δ++m):=by
 cases x with
 | ptr τ p =>
  simp only[storeA] at h ⊢;cases hs:y.sto with
  | false=>rw[hs] at h; cases h
  | true =>
  rw[hs] at h;simp only[cond_true] at h ⊢;cases hm:mget τ m with
  | var v =>
   rw[hm] at h;simp only at h ⊢;cases hg:v.set m y p with
   | none=>rw[hg] at h; cases h
   | some x=>exact ⟨[(τ,.var x)],fun k'=>rfl⟩
  | row t xs =>
   rw[hm] at h;simp only at h ⊢;obtain ⟨δ,hδ⟩:=Y7p y.toks m;cases hm2:mget τ (frzL y.toks m) with
   | row t2 xs2 =>
    rw[hm2] at h;simp only at h ⊢;cases p with
    | nil=>cases h
    | cons s q =>
     cases s with
     | row i sz =>
      simp only at h ⊢;cases hb:Nat.beq sz t.size with
      | false=>rw[hb] at h; cases h
      | true =>
       rw[hb] at h;simp only[cond_true] at h ⊢;cases hg:(AV.d t (getAt t.zero xs i)).set (frzL y.toks m) y q with
       | none=>rw[hg] at h; cases h
       | some v' =>
        rw[hg] at h;simp only at h ⊢;cases hd:v'.data (frzL y.toks m) t with
        | none=>rw[hd] at h; cases h
        | some z=>exact ⟨(τ,.row t (xs.set i z)) :: δ,fun k'=>by simp only[hδ]; rfl⟩
     | _=>cases h
   | _=>rw[hm2] at h; cases h
  | _=>rw[hm] at h; cases h
 | _=>cases h
theorem Y9a {R:Type} {k:AV->Option R} {r:R} {kx ky:IntKind} {a b:Int} {op:BinOp} (h:intBin kx ky a b op k=some r):∃ v,∀ {R':Type} (k':AV->Option R'),intBin kx ky a b op k'=k' v:=by
 cases op <;> simp only[intBin] at h ⊢ <;> first
  | (obtain ⟨h1,h2⟩:=Y2j h
     first
      | (obtain ⟨h3,h4⟩:=Yft h2
         exact ⟨_,fun k'=>by rw[h1,h3]; rfl⟩)
      | exact ⟨_,fun k'=>by rw[h1]; rfl⟩)
  | (obtain ⟨h3,h4⟩:=Yft h
     exact ⟨_,fun k'=>by rw[h3]; rfl⟩)
  | cases h
theorem Y6b {R:Type} {k:AV->Option R} {r:R} {b:Bool} {op:BinOp} (h:eqSel op b k=some r):∃ v,∀ {R':Type} (k':AV->Option R'),eqSel op b k'=k' v:=by
 cases op <;> first | exact ⟨_,fun k'=>rfl⟩ | cases h
theorem Yjh {R:Type} {k:AV->Option R} {r:R} {a b:List UInt8} {op:BinOp} (h:strBin a b op k=some r):∃ v,∀ {R':Type} (k':AV->Option R'),strBin a b op k'=k' v:=by
 cases op <;> first
  | exact ⟨_,fun k'=>rfl⟩
  | (simp only[strBin] at h ⊢
     obtain ⟨h3,h4⟩:=Yft h;exact ⟨_,fun k'=>by rw[h3]; rfl⟩)
  | cases h
theorem Yic {R:Type} {i:TI} {l h:Int->Option Int} {k:AV->Option R} {r:R} {x:AV} (hh:sliceA i m l h k x=some r):∃ v,∀ {R':Type} (k':AV->Option R'),sliceA i m l h k' x=k' v:=by
 have br:∀ (b:Bool) (d:Int) (n:Nat) (f:Int->Int->AV),(bif b then (match l 0,h d with | some l,some h=>req (sub3 l h n) (k (f l h)) | _,_=>none) else none)=some r ->
   ∃ v,∀ {R':Type} (k':AV->Option R'),(bif b then (match l 0,h d with | some l,some h=>req (sub3 l h n) (k' (f l h)) | _,_=>none) else none)=k' v:=by
  intro b d n f h1;obtain ⟨h2,h3⟩:=Y2j h1;split at h3
  ·rename_i p q e1 e2;obtain ⟨h4,h5⟩:=Yft h3;exact ⟨f p q,fun k'=>by rw[h2]; simp only[cond_true,h4,req]⟩
  ·cases h3
 cases x with
 | d t xs =>
  cases t with
  | str=>exact br _ _ _ _ hh
  | slice e=>exact br _ _ _ _ hh
  | _=>cases hh
 | nl=>exact br _ _ _ (fun _ _=>.nl) hh
 | sl τ =>
  simp only[sliceA] at hh ⊢;cases hm:mget τ m with
  | row e xs=>rw[hm] at hh; exact br _ _ _ _ hh
  | frz e xs=>rw[hm] at hh; exact br _ _ _ _ hh
  | _=>rw[hm] at hh; cases hh
 | vw τ lo q sz=>exact br _ _ _ _ hh
 | ptr τ p =>
  simp only[sliceA] at hh ⊢;obtain ⟨h2,h3⟩:=Y2j hh;split at h3
  ·rename_i a b e1 e2;obtain ⟨h4,_⟩:=Y2j h3;exact ⟨.va τ p i.alen i.esz,fun k'=>by simp only[h2,e1,e2,h4,cond_true]⟩
  ·cases h3
 | _=>cases hh
theorem Y1z {R:Type} {i:TI} {N:Nat} {l h:Int->Option Int} {k:AV->Mem->Nat->Option R} {r:R} {x:AV} (hh:Y1y i m N l h k x=some r):∃ v δ N',∀ {R':Type} (k':AV->Mem->Nat->Option R'),Y1y i m N l h k' x=k' v (δ++m) N':=by
 unfold Y1y at hh ⊢;split at hh
 ·rename_i τ;split at hh
  ·rename_i n e xs hm;split at hh
   ·rename_i a b e1 e2;obtain ⟨h1,h2⟩:=Y2j hh;obtain ⟨h3,h4⟩:=Yft h2;exact ⟨.d (.slice e) (cut (xs:List e.T) 0 (toN b)),[(τ,.gone)],N,fun k'=>by simp only[hm,e1,e2,h1,h3,cond_true,req]; rfl⟩
   ·cases hh
  ·cases hh
 ·cases hh
theorem Y4y {R:Type} {t:Ty} {ys:List t.T} {k:Nat->Mem->Option R} {r:R} {x:AV} (hh:copyVa m t ys k x=some r):∃ n δ,∀ {R':Type} (k':Nat->Mem->Option R'),copyVa m t ys k' x=k' n (δ++m):=by
 unfold copyVa at hh ⊢;split at hh
 ·rename_i τ p n sz;obtain ⟨h1,h2⟩:=Y2j hh;split at h2
  ·rename_i v hm;split at h2
   ·rename_i t' xs hg;split at h2
    ·rename_i xs' hc;split at h2
     ·rename_i v' hs;exact ⟨lenMin t ys n,[(τ,.var v')],fun k'=>by simp only[h1,hm,hg,hc,hs,cond_true]; rfl⟩
     ·cases h2
    ·cases h2
   ·cases h2
  ·cases h2
 ·cases hh
theorem Y7a {R:Type} {n:Int} {z:Option R} {k:AV->Option R} {r:R}:∀ {ks:List Int} {vs:AV},fmSel n z k ks vs=some r ->
  ((∀ {R':Type} (z':Option R') (k':AV->Option R'),fmSel n z' k' ks vs=z')/\z=some r) \/ ∃ v,(∀ {R':Type} (z':Option R') (k':AV->Option R'),fmSel n z' k' ks vs=k' v)/\k v=some r
 | [],vs,h=>.inl ⟨fun _ _=>rfl,h⟩
 | a :: ks,vs,h=>by
  cases vs with
  | cons v vs =>
   simp only[fmSel] at h ⊢;cases hb:eqI n a with
   | true=>rw[hb] at h; exact .inr ⟨v,fun _ _=>rfl,h⟩
   | false=>rw[hb] at h; exact Y7a (ks:=ks) (vs:=vs) h
  | _=>cases h
theorem Y3g {R:Type} {n:Int} {k:Sel->Option R} {r:R}:∀ {l:List Sel} {j:Nat},Y3e n l j k=some r->∃ s,(∀ {R':Type} (k':Sel->Option R'),Y3e n l j k'=k' s)/\k s=some r
 | [],j,h=>by cases h
 | s :: l,j,h=>by
  simp only[Y3e] at h ⊢;cases hb:(n == (j:Int)) with
  | true=>rw[hb] at h; exact ⟨s,fun k'=>rfl,h⟩
  | false=>rw[hb] at h; exact Y3g h
theorem Y1o (hfx:(∀ f cl s,fxget f cl C.fx=some s->s.Uni)/\(∀ id sl s,ysget id C.ys=some (sl,s)->s.Uni)/\∀ (R:Type) f cl args m N k kp,C.miss (R:=R) f cl args m N k kp=none) {R:Type} {op:Op} {ty:TypeId} {fr:Fr} {N:Nat} {k kp:AV->Mem->Nat->Option R} {r:R} (h:aop C op ty fr m N k kp=some r) :
  (∃ v δ N',∀ {R':Type} (k' kp':AV->Mem->Nat->Option R'),aop C op ty fr m N k' kp'=k' v (δ++m) N') \/
  (∃ v δ N',∀ {R':Type} (k' kp':AV->Mem->Nat->Option R'),aop C op ty fr m N k' kp'=kp' v (δ++m) N'):=by
 cases op with
 | move x=>exact .inl ⟨_,[],_,fun k' kp'=>rfl⟩
 | assign x=>exact .inl ⟨_,[],_,fun k' kp'=>rfl⟩
 | pick c a b =>
  simp only[aop] at h ⊢;cases hq:ev fr c with
  | d ty b =>
   cases ty with
   | bool =>
    rw[hq] at h;simp only at h ⊢;cases b with
    | true=>exact .inl ⟨_,[],_,fun k' kp'=>rfl⟩
    | false=>exact .inl ⟨_,[],_,fun k' kp'=>rfl⟩
   | _=>rw[hq] at h; cases h
  | _=>rw[hq] at h; cases h
 | alloc t =>
  simp only[aop] at h ⊢;cases hi:tget t C.tb with
  | none=>rw[hi] at h; cases h
  | some i=>exact .inl ⟨_,[_],_,fun k' kp'=>rfl⟩
 | box t x =>
  simp only[aop] at h ⊢;obtain ⟨h1,h2⟩:=Y2j h;exact .inl ⟨_,[_],_,fun k' kp'=>by rw[h1]; rfl⟩
 | build t parts =>
  simp only[aop] at h ⊢;cases hi:tget t C.tb with
  | none=>rw[hi] at h; cases h
  | some i =>
   rw[hi] at h;simp only at h ⊢;obtain ⟨h1,h2⟩:=Y2j h;clear h;split at h2
   ·rename_i v hv;obtain ⟨h3,h4⟩:=Y2j h2;exact .inl ⟨v,[],_,fun k' kp'=>by rw[h1]; simp only[cond_true,hv,h3]; rfl⟩
   ·cases h2
 | buildSlice t n parts =>
  simp only[aop] at h ⊢;cases hi:tget t C.tb with
  | none=>rw[hi] at h; cases h
  | some i =>
   rw[hi] at h;simp only at h ⊢;obtain ⟨δ,hδ⟩:=Y7p (toksL (parts.toList.map fun p=>ev fr p.2)) m;split at h
   ·rename_i xs hx;obtain ⟨h3,h4⟩:=Y2j h;exact .inl ⟨_,(N,.row i.ety xs) :: δ,_,fun k' kp'=>by simp only[h3,cond_true,hδ]; rfl⟩
   ·cases h
 | load t a =>
  simp only[aop] at h ⊢;cases hi:tget t C.tb with
  | none=>rw[hi] at h; cases h
  | some i =>
   rw[hi] at h;simp only at h ⊢;obtain ⟨v,hv⟩:=Yaa h;rw[hv] at h;obtain ⟨h1,h2⟩:=Y2j h;exact .inl ⟨v,[],_,fun k' kp'=>by rw[hv,h1]; rfl⟩
 | store t a x =>
  simp only[aop] at h ⊢;cases hi:tget t C.tb with
  | none=>rw[hi] at h; cases h
  | some i =>
   rw[hi] at h;simp only at h ⊢;obtain ⟨h1,h2⟩:=Y2j h;obtain ⟨δ,hδ⟩:=Yjf h2;exact .inl ⟨_,δ,_,fun k' kp'=>by rw[h1]; simp only[cond_true]; rw[hδ]⟩
 | binOp op t x y t' =>
  simp only[aop] at h ⊢;split at h
  ·rename_i kx a ky b e1 e2;obtain ⟨v,hv⟩:=Y9a h;exact .inl ⟨v,[],_,fun k' kp'=>by simp only[hv]; rfl⟩
  ·rename_i a b e1 e2;obtain ⟨v,hv⟩:=Yjh h;exact .inl ⟨v,[],_,fun k' kp'=>by simp only[hv]; rfl⟩
  ·cases hi:tget t C.tb with
   | none=>rw[hi] at h; cases h
   | some i =>
    rw[hi] at h;simp only at h ⊢;obtain ⟨h1,h2⟩:=Y2j h;clear h;split at h2
    ·rename_i p q hp hq;obtain ⟨v,hv⟩:=Y6b h2;exact .inl ⟨v,[],_,fun k' kp'=>by rw[h1]; simp only[cond_true]; rw[hv]; rfl⟩
    ·cases h2
 | unOp op t x =>
  cases op with
  | not =>
   simp only[aop] at h ⊢;cases hq:ev fr x with
   | d ty b =>
    cases ty with
    | bool=>exact .inl ⟨_,[],_,fun k' kp'=>rfl⟩
    | _=>rw[hq] at h; cases h
   | _=>rw[hq] at h; cases h
  | _=>cases h
 | fieldAddr t x f =>
  simp only[aop] at h ⊢;cases hi:tget t C.tb with
  | none=>rw[hi] at h; cases h
  | some i =>
   rw[hi] at h;simp only at h ⊢;obtain ⟨h1,h2⟩:=Y2j h;clear h;rw[h1];cases hq:ev fr x with
   | ptr τ p=>exact .inl ⟨_,[],_,fun k' kp'=>rfl⟩
   | pv t x =>
    rw[hq] at h2;simp only[cond_true] at h2 ⊢;split at h2
    ·rename_i t' x' hs;obtain ⟨h3,h4⟩:=Y2j h2;exact .inl ⟨_,[],_,fun k' kp'=>by rw[h3]; rfl⟩
    ·cases h2
   | _=>rw[hq] at h2; cases h2
 | field t x f =>
  simp only[aop] at h ⊢;cases hi:tget t C.tb with
  | none=>rw[hi] at h; cases h
  | some i =>
   rw[hi] at h;simp only at h ⊢;obtain ⟨h1,h2⟩:=Y2j h;clear h;rw[h1];simp only[cond_true];cases hs:(ev fr x).sel (getAt .inn i.flds f) with
   | none=>rw[hs] at h2; cases h2
   | some v =>
    rw[hs] at h2;obtain ⟨h3,h4⟩:=Y2j h2;exact .inl ⟨v,[],_,fun k' kp'=>by simp only[h3,cond_true]; rfl⟩
 | indexAddr t x ix =>
  simp only[aop] at h ⊢;cases hi:tget t C.tb with
  | none=>rw[hi] at h; cases h
  | some i =>
   rw[hi] at h;simp only at h ⊢;generalize ev fr x=u at *;generalize ev fr ix=v at *;split at h
   ·obtain ⟨h1,h2⟩:=Y2j h;obtain ⟨h3,h4⟩:=Yft h2;exact .inl ⟨_,[],_,fun k' kp'=>by simp only[h1,h3,req,cond_true]; rfl⟩
   ·split at h
    ·rename_i hm;obtain ⟨h1,h2⟩:=Y2j h;obtain ⟨h3,h4⟩:=Yft h2;exact .inl ⟨_,[],_,fun k' kp'=>by simp only[h1,h3,req,cond_true]; rfl⟩
    ·rename_i hm;obtain ⟨h1,h2⟩:=Y2j h;obtain ⟨h3,h4⟩:=Yft h2;exact .inl ⟨_,[],_,fun k' kp'=>by simp only[h1,h3,req,cond_true]; rfl⟩
    ·cases h
   ·split at h
    ·rename_i hm;obtain ⟨h1,h2⟩:=Y2j h;obtain ⟨h3,h4⟩:=Yft h2;exact .inl ⟨_,[],_,fun k' kp'=>by simp only[h1,h3,req,cond_true]; rfl⟩
    ·rename_i hm;obtain ⟨h1,h2⟩:=Y2j h;obtain ⟨h3,h4⟩:=Yft h2;exact .inl ⟨_,[],_,fun k' kp'=>by simp only[h1,h3,req,cond_true]; rfl⟩
    ·cases h
   ·obtain ⟨h1,h2⟩:=Y2j h;obtain ⟨h3,h4⟩:=Yft h2;exact .inl ⟨_,[],_,fun k' kp'=>by simp only[h1,h3,req,cond_true]; rfl⟩
   ·rename_i τ p kk n;cases hb:Nat.beq i.kind 3 with
    | true =>
     rw[hb] at h;simp only[cond_true] at h ⊢;obtain ⟨h3,h4⟩:=Yft h;exact .inl ⟨_,[],_,fun k' kp'=>by simp only[h3,req,cond_true]; rfl⟩
    | false =>
     rw[hb] at h;simp only[cond_false] at h ⊢;obtain ⟨h1,h2⟩:=Y2j h;obtain ⟨s,hs,_⟩:=Y3g h2;exact .inl ⟨_,[],_,fun k' kp'=>by rw[h1]; simp only[cond_true]; rw[hs]; rfl⟩
   ·cases h
 | index t x ix =>
  simp only[aop] at h ⊢;cases hi:tget t C.tb with
  | none=>rw[hi] at h; cases h
  | some i =>
   rw[hi] at h;simp only at h ⊢;generalize ev fr x=u at *;generalize ev fr ix=v at *;split at h
   ·obtain ⟨h1,h2⟩:=Y2j h;obtain ⟨h3,h4⟩:=Yft h2;exact .inl ⟨_,[],_,fun k' kp'=>by simp only[h1,h3,req,cond_true]; rfl⟩
   ·obtain ⟨h1,h2⟩:=Y2j h;obtain ⟨h3,h4⟩:=Yft h2;exact .inl ⟨_,[],_,fun k' kp'=>by simp only[h1,h3,req,cond_true]; rfl⟩
   ·obtain ⟨h1,h2⟩:=Y2j h;obtain ⟨s,hs,h5⟩:=Y3g h2;split at h5
    ·rename_i v' hv';obtain ⟨h6,h7⟩:=Y2j h5;exact .inl ⟨_,[],_,fun k' kp'=>by rw[h1]; simp only[cond_true]; rw[hs]; simp only[hv',h6,cond_true]; rfl⟩
    ·cases h5
   ·cases h
 | extract t i =>
  simp only[aop] at h ⊢;cases hq:ev fr t with
  | tu vs =>
   rw[hq] at h;obtain ⟨h1,h2⟩:=Y2j h;exact .inl ⟨_,[],_,fun k' kp'=>by simp only[h1,cond_true]; rfl⟩
  | _=>rw[hq] at h; cases h
 | makeFunc f first cap =>
  cases f with
  | func f=>exact .inl ⟨_,[],_,fun k' kp'=>rfl⟩
  | _=>cases h
 | slice t x lo hh mx =>
  cases mx with
  | some v =>
   cases hh with
   | none=>cases h
   | some hv =>
    simp only[aop] at h ⊢;split at h
    ·rename_i i hi;split at h
     ·rename_i e xs hq;obtain ⟨h1,h2⟩:=Y2j h;split at h2
      ·rename_i l h0 q e1 e2 e3;obtain ⟨h3,h4⟩:=Yft h2;exact .inl ⟨_,[],_,fun k' kp'=>by rw[h1]; simp only[cond_true,e1,e2,e3,h3,req]; rfl⟩
      ·cases h2
     ·cases h
    ·cases h
  | none =>
   simp only[aop] at h ⊢;cases hi:tget t C.tb with
   | none=>rw[hi] at h; cases h
   | some i =>
    rw[hi] at h;simp only at h ⊢;rcases Bool.eq_false_or_eq_true (Nat.beq i.kind 3 && hh.isSome) with hb | hb
    ·rw[hb,cond_true] at h;obtain ⟨v,δ,N',hv⟩:=Y1z h;exact .inl ⟨v,δ,N',fun k' kp'=>by rw[hb,cond_true]; exact hv _⟩
    ·rw[hb,cond_false] at h;obtain ⟨v,hv⟩:=Yic h;exact .inl ⟨v,[],_,fun k' kp'=>by rw[hb,cond_false]; exact hv _⟩
 | makeSlice t x y =>
  simp only[aop] at h ⊢;split at h
  ·rename_i i k1 n k2 c e1 e2 e3;obtain ⟨h1,h2⟩:=Y2j h;obtain ⟨h3,h4⟩:=Yft h2;exact .inl ⟨_,[_],_,fun k' kp'=>by rw[h1]; simp only[cond_true,h3,req]; rfl⟩
  ·cases h
 | convert s t x =>
  simp only[aop] at h ⊢;split at h
  ·rename_i i j kk n h1 h2 h3;split at h
   ·rename_i kd hk;obtain ⟨h4,h5⟩:=Y2j h;exact .inl ⟨_,[],_,fun k' kp'=>by simp only[h4,cond_true]; rfl⟩
   ·cases h
  ·cases h
 | nilCheck x =>
  simp only[aop] at h ⊢;cases hq:ev fr x with
  | ptr τ p=>exact .inl ⟨.ptr τ p,[],N,fun k' kp'=>by simp⟩
  | pv t y=>exact .inl ⟨.pv t y,[],N,fun k' kp'=>by simp⟩
  | ifc t v=>exact .inl ⟨.ifc t v,[],N,fun k' kp'=>by simp⟩
  | fn f u v=>exact .inl ⟨.fn f u v,[],N,fun k' kp'=>by simp⟩
  | _=>rw[hq] at h; cases h
 | makeInterface t x =>
  simp only[aop] at h ⊢;cases hi:tget t C.tb with
  | none=>rw[hi] at h; cases h
  | some i =>
   rw[hi] at h;obtain ⟨h1,h2⟩:=Y2j h;exact .inl ⟨.ifc t (ev fr x),[],N,fun k' kp'=>by simp[h1]⟩
 | typeAssert x s t ok =>
  simp only[aop] at h ⊢;cases hi:tget t C.tb with
  | none=>rw[hi] at h; cases h
  | some i =>
   rw[hi] at h;simp only at h ⊢;cases hq:ev fr x with
   | ifc t' v =>
    rw[hq] at h;obtain ⟨h1,h2⟩:=Y2j h;cases ok with
    | true=>exact .inl ⟨_,[],N,fun k' kp'=>by simp only[h1,cond_true]; rfl⟩
    | false=>exact .inl ⟨_,[],N,fun k' kp'=>by simp only[h1,cond_true,cond_false]; rfl⟩
   | nili =>
    rw[hq] at h;obtain ⟨h1,h2⟩:=Y2j h;exact .inl ⟨_,[],N,fun k' kp'=>by simp only[h1,cond_true]; rfl⟩
   | _=>rw[hq] at h; cases h
 | panic x =>
  simp only[aop] at h ⊢;cases hq:ev fr x with
  | ifc t v=>exact .inr ⟨.ifc t v,[],N,fun k' kp'=>by simp⟩
  | _=>rw[hq] at h; cases h
 | makeMap t rs =>
  simp only[aop] at h ⊢;cases hi:tget t C.tb with
  | none=>rw[hi] at h; cases h
  | some i =>
   rw[hi] at h;simp only at h ⊢;cases h1:(Nat.beq i.kind 6 && i.mky) with
   | true =>
    rw[h1,cond_true] at h;cases rs with
    | none=>exact .inl ⟨.mp N,[_],N+1,fun k' kp'=>by simp only[h1,cond_true]; rfl⟩
    | some x =>
     simp only at h ⊢;split at h
     ·rename_i kd n hx;exact .inl ⟨.mp N,[_],N+1,fun k' kp'=>by simp only[h1,cond_true,hx]; rfl⟩
     ·cases h
   | false =>
    rw[h1,cond_false] at h;cases h2:(Nat.beq i.kind 6 && i.fmk) with
    | true =>
     rw[h2,cond_true] at h;have h3:=h;clear h;cases rs with
     | none=>exact .inl ⟨.mp N,[(N,.fm [] .nil)],N+1,fun k' kp'=>by simp only[h1,h2,cond_true,cond_false]; rfl⟩
     | some x =>
      simp only at h3 ⊢;split at h3
      ·rename_i kd n hx;exact .inl ⟨.mp N,[(N,.fm [] .nil)],N+1,fun k' kp'=>by simp only[h1,h2,cond_true,cond_false,hx]; rfl⟩
      ·cases h3
    | false =>
     rw[h2,cond_false] at h;obtain ⟨h4,h3⟩:=Y2j h;clear h;cases rs with
     | none =>
      obtain ⟨δ,hδ⟩:=Yc7 h3;exact .inl ⟨.mp N,δ,N+1,fun k' kp'=>by simp only[h1,h2,h4,cond_true,cond_false,hδ]⟩
     | some x =>
      simp only at h3 ⊢;split at h3
      ·rename_i kd n hx;obtain ⟨δ,hδ⟩:=Yc7 h3;exact .inl ⟨.mp N,δ,N+1,fun k' kp'=>by simp only[h1,h2,h4,cond_true,cond_false,hx,hδ]⟩
      ·cases h3
 | lookup t x ix ok =>
  simp only[aop] at h ⊢;cases hi:tget t C.tb with
  | none=>rw[hi] at h; cases h
  | some i =>
   rw[hi] at h;simp only at h ⊢;cases h1:(Nat.beq i.kind 6 && i.mky) with
   | false =>
    rw[h1,cond_false] at h;cases h2:(Nat.beq i.kind 6 && i.fmk) with
    | false =>
     rw[h2,cond_false] at h;obtain ⟨h4,h3⟩:=Y2j h;obtain ⟨v,δ,N',hδ⟩:=Yc5 h3;exact .inl ⟨v,δ,N',fun k' kp'=>by simp only[h1,h2,h4,cond_true,cond_false,hδ]⟩
    | true =>
    rw[h2,cond_true] at h;have h3:=h;clear h;split at h3
    ·rename_i n τ ks vs e1 e2;rcases Y7a h3 with ⟨q1,_⟩ | ⟨v,q1,_⟩
     ·cases ok with
      | true=>exact .inl ⟨_,[],N,fun k' kp'=>by simp only[h1,h2,e1,e2,cond_true,cond_false,q1]; rfl⟩
      | false=>exact .inl ⟨_,[],N,fun k' kp'=>by simp only[h1,h2,e1,e2,cond_true,cond_false,q1]; rfl⟩
     ·cases ok with
      | true=>exact .inl ⟨_,[],N,fun k' kp'=>by simp only[h1,h2,e1,e2,cond_true,cond_false,q1]; rfl⟩
      | false=>exact .inl ⟨_,[],N,fun k' kp'=>by simp only[h1,h2,e1,e2,cond_true,cond_false,q1]; rfl⟩
    ·cases h3
   | true =>
    rw[h1,cond_true] at h;have h2:=h;clear h;split at h2
    ·rename_i key hkey;split at h2
     ·rename_i hq;cases ok with
      | true=>exact .inl ⟨_,[],N,fun k' kp'=>by simp only[h1,hkey,hq,cond_true]; rfl⟩
      | false=>exact .inl ⟨_,[],N,fun k' kp'=>by simp only[h1,hkey,hq,cond_true,cond_false]; rfl⟩
     ·rename_i hne;split at h2
      ·rename_i τ l hm;cases hq:ev fr x with
       | mp σ =>
        rw[hq] at hm;cases ok with
        | true=>exact .inl ⟨_,[],N,fun k' kp'=>by simp only[h1,hkey,hm,cond_true]; rfl⟩
        | false=>exact .inl ⟨_,[],N,fun k' kp'=>by simp only[h1,hkey,hm,cond_true,cond_false]; rfl⟩
       | _=>rw[hq] at hm; cases hm
      ·cases h2
    ·cases h2
 | mapUpdate t x kk v =>
  simp only[aop] at h ⊢;cases hi:tget t C.tb with
  | none=>rw[hi] at h; cases h
  | some i =>
   rw[hi] at h;simp only at h ⊢;cases h1:(Nat.beq i.kind 6 && i.mky) with
   | true =>
    rw[h1,cond_true] at h;obtain ⟨δ,hδ⟩:=Y7p (ev fr v).toks m;split at h
    ·rename_i key y τ l e1 e2 e3;rw[hδ] at e2 e3;exact .inl ⟨.dead,(τ,.mp i.kty i.ety (mputK key y l)) :: δ,N,fun k' kp'=>by simp only[h1,cond_true,hδ,e1,e2,e3]; rfl⟩
    ·cases h
   | false =>
    rw[h1,cond_false] at h;cases h2:(Nat.beq i.kind 6 && i.fmk) with
    | false =>
     rw[h2,cond_false] at h;obtain ⟨h4,h3⟩:=Y2j h;obtain ⟨δ,hδ⟩:=Yc9 h3;exact .inl ⟨.dead,δ,N,fun k' kp'=>by simp only[h1,h2,h4,cond_true,cond_false,hδ]⟩
    | true =>
    rw[h2,cond_true] at h;have h3:=h;clear h;split at h3
    ·rename_i n τ ks vs e1 e2;obtain ⟨h4,_⟩:=Y2j h3;exact .inl ⟨.dead,[(τ,.fm (snocI ks n) (vs.snoc (ev fr v)))],N,fun k' kp'=>by simp only[h1,h2,e1,e2,h4,cond_true,cond_false]; rfl⟩
    ·cases h3
 | insert t x kk v =>
  simp only[aop] at h ⊢;cases hi:tget t C.tb with
  | none=>rw[hi] at h; cases h
  | some i =>
   rw[hi] at h;simp only at h ⊢;cases h1:(Nat.beq i.kind 6 && i.mky) with
   | true =>
    rw[h1,cond_true] at h;obtain ⟨δ,hδ⟩:=Y7p (ev fr v).toks m;split at h
    ·rename_i key y τ l e1 e2 e3;rw[hδ] at e2 e3;exact .inl ⟨.dead,(τ,.mp i.kty i.ety (mputK key y l)) :: δ,N,fun k' kp'=>by simp only[h1,cond_true,hδ,e1,e2,e3]; rfl⟩
    ·cases h
   | false =>
    rw[h1,cond_false] at h;cases h2:(Nat.beq i.kind 6 && i.fmk) with
    | false =>
     rw[h2,cond_false] at h;obtain ⟨h4,h3⟩:=Y2j h;obtain ⟨δ,hδ⟩:=Yc9 h3;exact .inl ⟨.dead,δ,N,fun k' kp'=>by simp only[h1,h2,h4,cond_true,cond_false,hδ]⟩
    | true =>
    rw[h2,cond_true] at h;have h3:=h;clear h;split at h3
    ·rename_i n τ ks vs e1 e2;obtain ⟨h4,_⟩:=Y2j h3;exact .inl ⟨.dead,[(τ,.fm (snocI ks n) (vs.snoc (ev fr v)))],N,fun k' kp'=>by simp only[h1,h2,e1,e2,h4,cond_true,cond_false]; rfl⟩
    ·cases h3
 | mapEntry t x kk =>
  simp only[aop] at h ⊢;cases hi:tget t C.tb with
  | none=>rw[hi] at h; cases h
  | some i =>
   rw[hi] at h;obtain ⟨h1,h2⟩:=Y2j h;split at h2
   ·rename_i key τ l e1 e2;exact .inl ⟨_,[_],N,fun k' kp'=>by simp only[h1,cond_true,e1,e2]; rfl⟩
   ·cases h2
 | entryStore t x s v =>
  simp only[aop] at h ⊢;cases hi:tget t C.tb with
  | none=>rw[hi] at h; cases h
  | some i =>
   rw[hi] at h;obtain ⟨h1,h2⟩:=Y2j h;obtain ⟨δ,hδ⟩:=Y7p (ev fr v).toks m;split at h2
   ·rename_i kd n y τ l e1 e2 e3;obtain ⟨h3,h4⟩:=Yft h2;rw[hδ] at e2 e3;exact .inl ⟨.dead,(τ,.mp i.kty i.ety (mset l (toN n) y)) :: δ,N,fun k' kp'=>by simp only[h1,cond_true,hδ,e1,e2,e3,h3,req]; rfl⟩
   ·cases h2
 | call c =>
  simp only[aop] at h ⊢;cases hc:c.callee with
  | builtin b =>
   rw[hc] at h;cases b with
   | clear =>
    simp only at h ⊢;split at h
    ·rename_i x t h1 h2;split at h
     ·rename_i i e1;obtain ⟨h3,h4⟩:=Y2j h;split at h4
      ·rename_i τ lo n xs e3;exact .inl ⟨_,[_],_,fun k' kp'=>by rw[h3]; simp only[cond_true,e3]; rfl⟩
      ·cases h4
     ·cases h
    ·cases h
   | append =>
    simp only at h ⊢;split at h
    ·rename_i x y t u h1 h2;split at h
     ·rename_i i j e1 e2;obtain ⟨h3,h4⟩:=Y2j h;split at h4
      ·rename_i τ xs ys e3 e4;obtain ⟨h5,h6⟩:=Yft h4;exact .inl ⟨_,[_,_],_,fun k' kp'=>by rw[h3]; simp only[cond_true,e3,e4,h5,req]; rfl⟩
      ·rename_i xs ys e3 e4;obtain ⟨h5,h6⟩:=Yft h4;exact .inl ⟨_,[_],_,fun k' kp'=>by rw[h3]; simp only[cond_true,e3,e4,h5,req]; rfl⟩
      ·cases h4
     ·cases h
    ·cases h
   | copy =>
    simp only at h ⊢;split at h
    ·rename_i x y t u h1 h2;split at h
     ·rename_i i e1;obtain ⟨h3,h4⟩:=Y2j h;cases hva:isVa (ev fr x) with
      | true =>
       rw[hva,cond_true] at h4;split at h4
       ·rename_i ys e3;obtain ⟨n,δ,hv⟩:=Y4y h4;exact .inl ⟨.d (.int .i64) (natI n),δ,N,fun k' kp'=>by rw[h3]; simp only[cond_true,e3,hv]⟩
       ·cases h4
      | false =>
       rw[hva,cond_false] at h4;split at h4
       ·rename_i τ lo n xs ys e3 e4;exact .inl ⟨_,[_],_,fun k' kp'=>by rw[h3]; simp only[cond_true,cond_false,e3,e4]; rfl⟩
       ·cases h4
     ·cases h
    ·cases h
   | min =>
    simp only at h ⊢;split at h
    ·rename_i x y h1;split at h
     ·rename_i kx p ky q e1 e2;exact .inl ⟨_,[],_,fun k' kp'=>rfl⟩
     ·cases h
    ·cases h
   | max =>
    simp only at h ⊢;split at h
    ·rename_i x y h1;split at h
     ·rename_i kx p ky q e1 e2;exact .inl ⟨_,[],_,fun k' kp'=>rfl⟩
     ·cases h
    ·cases h
   | len =>
    simp only at h ⊢;split at h
    ·rename_i x t h1 h2;cases hi:tget t C.tb with
     | none=>rw[hi] at h; cases h
     | some i =>
      rw[hi] at h;simp only at h ⊢;split at h
      ·rename_i n hn;exact .inl ⟨_,[],_,fun k' kp'=>rfl⟩
      ·cases h
    ·cases h
   | _=>cases h
  | value f =>
   rw[hc] at h;simp only at h ⊢;cases hq:ev fr f with
   | fn g first cap =>
    rw[hq] at h;simp only at h ⊢;split at h
    ·rename_i l1 l2 h1 h2;cases hs:fxget g (closOf (l1++c.args.toList.map (ev fr)++l2)) C.fx with
     | none=>rw[hs] at h; simp only[hfx.2.2] at h; cases h
     | some s =>
      rw[hs] at h;exact hfx.1 _ _ _ hs _ _ _ _ _ _ h
    ·cases h
   | yl τ =>
    rw[hq] at h;simp only at h ⊢;split at h
    ·rename_i id slots sv tag hm;split at h
     ·rename_i sl s l hs hl;obtain ⟨h1,h9⟩:=Y2j h;clear h;rcases hfx.2.1 _ _ _ hs _ _ _ _ _ _ h9 with ⟨v,δ,N',hu⟩ | ⟨v,δ,N',hu⟩
      ·rw[hu] at h9;cases v with
       | d ty t =>
        cases ty with
        | int kd =>
         simp only at h9;simp only[h1,cond_true,hu];cases hb:eqI t 0 with
         | true=>exact .inl ⟨.d .bool true,(τ,.lp id slots sv 0) :: (δ++[(τ,.gone)]),N',fun k' kp'=>by simp⟩
         | false=>exact .inl ⟨.d .bool false,(τ,.lp id slots sv t) :: (δ++[(τ,.gone)]),N',fun k' kp'=>by simp⟩
        | _=>cases h9
       | _=>cases h9
      ·rw[hu] at h9; cases h9
     ·cases h
    ·cases h
   | _=>rw[hq] at h; cases h
  | _=>rw[hc] at h; cases h
 | _=>cases h
end
end Go.Proofs.YtifbgkikkiallaaGreat.VX

