import Derived.Test.YtifbgkikkiallaaGreatEdgesRunE13
import Derived.Deep.Slices
import Derived.ChangeArms
import Derived.WideShapes
set_option linter.unusedVariables false
set_option linter.unusedSimpArgs false
namespace Go.Proofs.YtifbgkikkiallaaGreat.VX
open Go.RowKit Go.ChangeShapes Go.WideShapes Go.Deep
def Ty.wf:(t:Ty)->t.T->Prop
 | .int k=>fun (n:Int)=>(Lit.int k n).wf=true
 | .bool=>fun _=>True
 | .str=>fun (s:List UInt8)=>s.length <= maxLen
 | .pair a b=>fun x=>a.wf x.1/\b.wf x.2
 | .one a=>a.wf
 | .slice t=>fun (l:List t.T)=>l.length <= maxLen/\∀ x ∈ l,t.wf x
 | .arr n t=>fun (l:List t.T)=>l.length=n/\∀ x ∈ l,t.wf x
section
variable (P:Program)
def tyF (f:TypeId->Ty->Bool):List Field->Nat->Ty->Bool
 | [],_,_=>false
 | [x],off,t=>Nat.beq x.offset off && f x.type t
 | x :: xs,off,.pair a b=>Nat.beq x.offset off && (f x.type a && tyF f xs (off+a.size) b)
 | _ :: _,_,_=>false
def tyS (f:TypeId->Ty->Bool):List Field->Ty->Bool
 | [x],.one a=>Nat.beq x.offset 0 && f x.type a
 | x :: y :: xs,t=>tyF f (x :: y :: xs) 0 t
 | _,_=>false
def tyB:Nat->TypeId->Ty->Bool
 | 0,_,_=>false
 | n+1,t,ty=>Nat.beq (P.cellsOf t) ty.size && (match P.underlying t with
  | some (.int k)=>(match ty with
   | .int k'=>Nat.beq (kno k) (kno k')
   | _=>false)
  | some .bool=>(match ty with
   | .bool=>true
   | _=>false)
  | some .string=>(match ty with
   | .str=>true
   | _=>false)
  | some (.slice e)=>(match ty with
   | .slice a=>Nat.blt 0 a.size && tyB n e a
   | _=>false)
  | some (.struct fs)=>tyS (tyB n) fs.toList ty
  | _=>false)
end
variable {P:Program}
def Y1d (P:Program) (t:TypeId) (ty:Ty):Prop :=
 P.cellsOf t=ty.size/\∀ {H:Type} (enc:TypeId × Value->H) (w:World) (base:Nat) (spare:Nat->Bool) (held:Bool) (fuel:Nat) (cs:List Value) (x:DataW H × List MemPlace),
  DataW.trod enc P w base spare held fuel t cs=some x->∃ a:ty.T,Rd w (fun _=>True) ty a cs/\ty.wf a
theorem tyF_ok {f:TypeId->Ty->Bool} (hf:∀ t ty,f t ty=true->Y1d P t ty) {H:Type} {enc:TypeId × Value->H} {w:World} {base:Nat} {spare:Nat->Bool} {held:Bool} {n:Nat} {cs:List Value} :
  ∀ (fs:List Field) (off:Nat) (ty:Ty),tyF f fs off ty=true->cs.length=off+ty.size->(∀ x ∈ fs,∃ y,DataW.trod enc P w base spare held n x.type ((cs.drop x.offset).take (P.cellsOf x.type))=some y) ->
   ∃ a:ty.T,Rd w (fun _=>True) ty a (cs.drop off)/\ty.wf a
 | [],_,_,h,_,_=>by cases h
 | [x],off,ty,h,hl,hy=>by
  have h:(Nat.beq x.offset off && f x.type ty)=true:=by cases ty <;> exact h
  rw[ba9] at h;obtain ⟨y,hy⟩:=hy x (by simp);obtain ⟨h1,h2⟩:=hf _ _ h.2;rw[eb9 h.1,h1,List.take_of_length_le (by rw[List.length_drop]; omega)] at hy;exact h2 enc w base spare held n _ _ hy
 | x :: x' :: xs,off,ty,h,hl,hy=>by
  cases ty with
  | pair a b =>
   have h:(Nat.beq x.offset off && (f x.type a && tyF f (x' :: xs) (off+a.size) b))=true:=h;simp only[ba9] at h;obtain ⟨q1,q2,q3⟩:=h;obtain ⟨y,hy1⟩:=hy x (by simp);obtain ⟨h1,h2⟩:=hf _ _ q2;rw[eb9 q1,h1] at hy1;obtain ⟨p,p1,p2⟩:=h2 enc w base spare held n _ _ hy1;have hl':cs.length=off+(a.size+b.size):=hl;obtain ⟨q,r1,r2⟩:=tyF_ok hf (x' :: xs) (off+a.size) b q3 (by omega) (fun g hg=>hy g (by simp[List.mem_cons.1 hg]));refine ⟨(p,q),⟨_,_,?_,p1,r1⟩,p2,r2⟩;rw[<- List.drop_drop,List.take_append_drop]
  | _=>cases h
theorem tyB_ok:∀ (n:Nat) (t:TypeId) (ty:Ty),tyB P n t ty=true->Y1d P t ty
 | 0,_,_,h=>by cases h
 | n+1,t,ty,h=>by
  simp only[tyB,ba9] at h;obtain ⟨hc,h⟩:=h;have hc:=eb9 hc;refine ⟨hc,fun enc w base spare held fuel cs x hx=>?_⟩;split at h
  ·rename_i k hu;cases ty with
   | int k' =>
    have:=Y9t h;subst this;obtain ⟨v,h1,_,h2⟩:=DataW.trod_int hu hx;exact ⟨v,h1,h2⟩
   | _=>cases h
  ·rename_i hu;cases ty with
   | bool =>
    obtain ⟨v,h1,_⟩:=DataW.trod_bool hu hx;exact ⟨v,h1,trivial⟩
   | _=>cases h
  ·rename_i hu;cases ty with
   | str =>
    obtain ⟨s,h1,_,h2⟩:=DataW.trod_string hu hx;exact ⟨s.data.toList,⟨s,h1,rfl⟩,by show s.data.toList.length <= maxLen; rw[<- Yi3]; exact h2⟩
   | _=>cases h
  ·rename_i e hu;cases ty with
   | slice a =>
    rw[ba9] at h;have hpos:0 < a.size:=by simpa using h.1
    obtain ⟨h1,h2⟩:=tyB_ok n e a h.2;rcases open_slice hu hx with ⟨rfl,_⟩ | ⟨ad,len,cap,m,n',D,Pl,rfl,_,hl,hm,hmm,_,hi⟩
    ·exact ⟨([]:List a.T),⟨none,0,rfl,Nat.le_refl _,.inl rfl⟩,by simp[maxLen],fun x hx=>by cases hx⟩
    ·have hlm:len <= m:=by rw[hmm]; split <;> omega
     have each:∀ i,i < len->∃ (y:a.T) (cs':List Value),Rd w (fun _=>True) a y cs'/\a.wf y/\cs'.length=a.size/\∀ j u,cs'[j]?=some u->w.cell? (ad.add (i * a.size+j))=some u:=by
      intro i hil;obtain ⟨cs',q1,q2⟩:=hi i (by omega);obtain ⟨y,k1,o1⟩:=h2 enc w base spare held n' cs' _ q2;rw[h1] at q1;obtain ⟨_,hcl,hat⟩:=World.cells?_some q1;have hlen:=Rd_len w _ a y cs' k1;refine ⟨y,cs',k1,o1,hlen,fun j u hu=>?_⟩;have hj:j < a.size:=by rw[<- hlen]; exact (List.getElem?_eq_some_iff.1 hu).1
      rw[<- Go.Deep.add_add,hat j hj,hu]
     have build:∀ q,q <= len->∃ (l:List a.T) (cells:List Value),l.length=q/\RdL (Rd w (fun _=>True) a) l cells/\(∀ x ∈ l,a.wf x)/\cells.length=q * a.size/\∀ j u,cells[j]?=some u->w.cell? (ad.add j)=some u:=by
      intro q;induction q with
      | zero=>intro _; exact ⟨[],[],rfl,rfl,fun x hx=>(by cases hx),by simp,fun j u hu=>by simp at hu⟩
      | succ q ih =>
       intro hq;obtain ⟨l,cells,l1,l2,l3,l4,l5⟩:=ih (by omega);obtain ⟨y,cs',y1,y2,y3,y4⟩:=each q (by omega);refine ⟨l++[y],cells++cs',by simp[l1],Yw _ _ _ _ l2 ⟨cs',[],by simp,y1,rfl⟩,fun x hx=>?_,by rw[ln9,l4,y3,Nat.add_mul]; omega,fun j u hu=>?_⟩
       ·rcases List.mem_append.1 hx with hx | hx
        ·exact l3 x hx
        ·rw[List.mem_singleton.1 hx]; exact y2
       ·by_cases hj:j < q * a.size
        ·rw[List.getElem?_append_left (by omega)] at hu; exact l5 j u hu
        ·rw[List.getElem?_append_right (by omega),l4] at hu;have:=y4 _ _ hu;rw[show q * a.size+(j - q * a.size)=j by omega] at this; exact this
     obtain ⟨l,cells,l1,l2,l3,l4,l5⟩:=build len (Nat.le_refl _);have hml:len <= maxLen:=by simp only[maxLen] at hm ⊢; omega
     refine ⟨(l:List a.T),⟨some ad,cap,by rw[l1],by rw[l1]; exact hl,?_⟩,by rw[l1]; exact hml,l3⟩;by_cases h0:cells=[]
     ·left;rw[h0] at l4;have:len * a.size=0:=l4.symm;rcases Nat.mul_eq_zero.1 this with h | h
      ·exact List.eq_nil_of_length_eq_zero (by omega)
      ·omega
     ·right;refine ⟨ad,cells,rfl,l2,?_⟩;have hlt:0 < cells.length:=List.length_pos_iff.2 h0;have g0:=l5 0 cells[0] (List.getElem?_eq_getElem hlt);have hspot:ad.spot=none:=by simpa[Addr.add] using World.cell?_spot g0
      obtain ⟨b,off,spot⟩:=ad;cases hspot;simp only[Y1f] at l5 g0;cases hh:w.heap[b]? with
      | none=>simp[World.cell?,hh] at g0
      | some o =>
       cases o with
       | cells c e' fr =>
        refine ⟨rfl,trivial,c,e',fr,hh,fun j u hu=>?_⟩;have:=l5 j u hu;simpa[World.cell?,hh] using this
       | _=>simp[World.cell?,hh] at g0
   | _=>cases h
  ·rename_i fs hu;obtain ⟨xs,n',_,_,hl,hxl,hfx⟩:=DataW.trod_struct hu hx
   have hy:∀ f ∈ fs.toList,∃ y,DataW.trod enc P w base spare held n' f.type ((cs.drop f.offset).take (P.cellsOf f.type))=some y:=by
    intro f hfm;obtain ⟨i,hi,he⟩:=List.getElem_of_mem hfm;have hi':i < fs.size:=by simpa using hi
    have hfi:fs[i]?=some f:=by rw[Array.getElem?_eq_getElem hi']; simpa using he
    have h1:=hfx i f hfi;rw[List.getElem?_eq_getElem (by omega)] at h1;exact ⟨_,h1⟩
   have key:∀ (l:List Field),l=fs.toList->tyS (tyB P n) l ty=true->∃ a:ty.T,Rd w (fun _=>True) ty a cs/\ty.wf a:=by
    intro l hl' hs
    match l,hs with
    | [x],hs =>
     cases ty with
     | one a =>
      have hs:(Nat.beq x.offset 0 && tyB P n x.type a)=true:=hs
      have:=tyF_ok (P:=P) (f:=tyB P n) (fun t ty=>tyB_ok n t ty) (H:=_) (enc:=enc) (w:=w) (base:=base) (spare:=spare) (held:=held) (n:=n') (cs:=cs) [x] 0 a (by cases a <;> exact hs)
       (by rw[hl,hc,Nat.zero_add]; rfl) (by rw[hl']; exact hy)
      rw[List.drop_zero] at this;exact this
     | _=>cases hs
    | x :: y :: xs',hs =>
     have:=tyF_ok (P:=P) (f:=tyB P n) (fun t ty=>tyB_ok n t ty) (H:=_) (enc:=enc) (w:=w) (base:=base) (spare:=spare) (held:=held) (n:=n') (cs:=cs) (x :: y :: xs') 0 ty hs
      (by rw[hl,hc,Nat.zero_add]) (by rw[hl']; exact hy)
     rw[List.drop_zero] at this;exact this
   exact key fs.toList rfl h
  ·cases h
end Go.Proofs.YtifbgkikkiallaaGreat.VX

