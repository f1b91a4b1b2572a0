/- Laid for the law StampTells. -/
import Derived.Test.YtifbgkikkiallaaStampTellsP0
set_option linter.unusedVariables false
set_option linter.unusedSimpArgs false
set_option maxHeartbeats 1000000
namespace Go.Proofs.Ytifbgkikkiallaa.VX.VxE_S
open Go.Proofs
theorem Yf7 {caps:List Int} {l:List Ev} (hn:caps.length < 1000) (hl:l.length < 900) (h:¬ (capsOK caps∧GoodL caps l)):Z2e (caps,l)=some ([],1):=by
 unfold Z2e
 simp only
 rw [Y1g hn hl h]
 rfl
theorem Yfa {caps:List Int} {l:List Ev} (hc:capsOK caps) (hG:GoodL caps l) (hl:l.length < 900) (i:Int):Z2i (caps,l,i)=some (if 0 ≤ i∧i < l.length then ((Y3g caps l l.length).getD i.toNat [],0) else ([],3)):=by
 have hlen:=Y3i caps l l.length
 unfold Z2i
 simp only
 rw [Yf8 hc hG hl]
 simp only [Option.bind_some]
 rw [bif_f (by rfl)]
 by_cases h1:i < 0
 ·rw [bif_t (decide_eq_true h1),if_neg (by omega)]
 rw [bif_f (decide_eq_false h1)]
 by_cases h2:i ≥ l.length
 ·rw [bif_t (decide_eq_true h2),if_neg (by omega)]
 rw [bif_f (decide_eq_false h2),if_pos (by omega),bif_t (inbL.2 (by omega)),Y70]
 rfl
theorem Yf9 {caps:List Int} {l:List Ev} (hn:caps.length < 1000) (hl:l.length < 900) (h:¬ (capsOK caps∧GoodL caps l)) (i:Int):Z2i (caps,l,i)=some ([],1):=by
 unfold Z2i
 simp only
 rw [Yf7 hn hl h]
 rfl
theorem Y5z {caps:List Int} {l:List Ev} (hn:caps.length < 1000) (hl:l.length < 900) (h:¬ (capsOK caps∧GoodL caps l)):Z2g (caps,l)=some ([],1):=by
 unfold Z2g
 simp only
 rw [Yf7 hn hl h]
 rfl
theorem Y1f:Ze ()=some true:=by
 have hG:GoodL [] [((0:Int),(0:Int),(0:Int),(0:Int),(-1:Int)),(0,1,1,0,-1),(1,0,0,0,1)]:=by
  intro i hi
  have hi:i < 3:=hi
  match i,hi with
  | 0,_ =>
   show goodE [] [] (0,0,0,0,-1)
   refine ⟨⟨by decide,by decide,by decide,by decide,by decide,by decide,by decide⟩,?_⟩
   rw [if_pos (by rfl)]
   exact ⟨rfl,rfl,rfl,by rw [if_pos (by rfl)]⟩
  | 1,_ =>
   show goodE [] [(0,0,0,0,-1)] (0,1,1,0,-1)
   refine ⟨⟨by decide,by decide,by decide,by decide,by decide,by decide,by decide⟩,?_⟩
   rw [if_neg (by decide)]
   refine ⟨by decide,fun _=>rfl,fun q=>absurd rfl q,?_,?_⟩
   ·unfold fromE; rw [if_neg (by decide)]
   ·refine ⟨fun _=>rfl,?_,?_,?_,?_,?_,?_,?_,?_⟩ <;> exact fun q=>absurd q (by decide)
  | 2,_ =>
   show goodE [] [(0,0,0,0,-1),(0,1,1,0,-1)] (1,0,0,0,1)
   refine ⟨⟨by decide,by decide,by decide,by decide,by decide,by decide,by decide⟩,?_⟩
   rw [if_pos (by rfl)]
   refine ⟨rfl,rfl,rfl,?_⟩
   rw [if_neg (by decide)]
   exact ⟨by decide,rfl,rfl⟩
 have ho:=Yfa (caps:=[]) ⟨by decide,by simp⟩ hG (by decide) 2
 rw [if_pos (by decide)] at ho
 have e0:Y55 [] [((0:Int),(0:Int),(0:Int),(0:Int),(-1:Int)),(0,1,1,0,-1),(1,0,0,0,1)] 0=[]:=rfl
 have e1:Y55 [] [((0:Int),(0:Int),(0:Int),(0:Int),(-1:Int)),(0,1,1,0,-1),(1,0,0,0,1)] 1=[0]:=by
  refine Y5l _ _ (Y57 _ _ _) (List.pairwise_singleton _ _) fun x=>?_
  rw [Y58,List.mem_singleton]
  constructor
  ·rintro ⟨k,rfl,hk,_⟩; omega
  ·rintro rfl; exact ⟨0,rfl,by decide,.inl rfl⟩
 have e2:Y55 [] [((0:Int),(0:Int),(0:Int),(0:Int),(-1:Int)),(0,1,1,0,-1),(1,0,0,0,1)] 2=[1]:=by
  refine Y5l _ _ (Y57 _ _ _) (List.pairwise_singleton _ _) fun x=>?_
  rw [Y58,List.mem_singleton]
  constructor
  ·rintro ⟨k,rfl,hk,hE⟩
   rcases hE with q | q | q | q | q | q | q
   ·exact absurd q (by show ¬ (k:Int)+1=((0:Nat):Int); omega)
   ·exact q.2
   ·exact absurd q.1 (by decide)
   ·exact absurd q.1 (by decide)
   ·exact absurd q.1 (by decide)
   ·exact absurd q.1 (by decide)
   ·exact absurd q.1 (by decide)
  ·rintro rfl
   exact ⟨1,rfl,by decide,.inr (.inl ⟨rfl,rfl⟩)⟩
 have hcl:(Y3g [] [((0:Int),(0:Int),(0:Int),(0:Int),(-1:Int)),(0,1,1,0,-1),(1,0,0,0,1)] 3)=[[1],[2],[2,1]]:=by
  simp only [Y3g,e0,e1,e2]
  decide
 have ho:Z2i ([],[((0:Int),(0:Int),(0:Int),(0:Int),(Int.negSucc 0)),(0,1,1,0,Int.negSucc 0),(1,0,0,0,1)],2)=some ([2,1],0):=by
  refine ho.trans ?_
  rw [show ([((0:Int),(0:Int),(0:Int),(0:Int),(-1:Int)),(0,1,1,0,-1),(1,0,0,0,1)]:List Ev).length=3 from rfl,hcl]
  rfl
 unfold Ze
 rw [ho]
 simp only [Option.bind_some]
 rw [bif_t (by rfl),Ydb _ (by decide)]
 rfl
theorem Y5r (l:List Ev):Zg l=some (l.take 100):=by
 unfold Zg
 rw [bif_t (sub3L.2 ⟨by omega,by omega,by omega⟩),Y4i l 100 100 rfl]
theorem stampTells_law (caps:List Int) (l:List Ev) (i:Int):F_plaitlaw16_StampTells (caps,l,i)=some true:=by
 have hln:(l.take 100).length ≤ 100:=by simp; omega
 have hcn:(caps.take 6).length ≤ 6:=by simp; omega
 unfold F_plaitlaw16_StampTells
 simp only
 rw [bif_t (sub3L.2 ⟨by omega,by omega,by omega⟩),Y5r,Y4i caps 6 6 rfl]
 simp only [Option.bind_some,Y1f]
 generalize l.take 100=l at *
 generalize caps.take 6=caps at *
 rw [Y9v caps l (by omega) (by omega)]
 by_cases h:capsOK caps∧GoodL caps l
 ·obtain ⟨hc,hG⟩:=h
  have hlen:=Y3i caps l l.length
  have hb:=Y3h caps l l.length
  rw [Yf8 hc hG (by omega),Yfa hc hG (by omega),Y60 hc hG (by omega),tB_t ⟨hc,hG⟩,Yck hc hG (by omega),Y5y hc hG (by omega)]
  simp only [Option.bind_some,Bool.not_true,cond_false]
  have hf:(foldC (Y3g caps l l.length)).length < 1000:=by
   have:=(Y6h (m:=l.length) (by omega) (Y3g caps l l.length) [] (BC.nil _) hb).1
   unfold foldC; omega
  generalize Y3g caps l l.length=out at *
  rw [bif_f (by rfl),bif_f (by rfl),bif_f (by simp),Ydb _ hf]
  simp only [Option.bind_some,Bool.not_true,cond_false]
  have key:=Y96 (f:=Z4q) out.length (fun k=>(l,i,out,(if 0 ≤ i∧i < l.length then (out.getD i.toNat [],(0:Int)) else ([],3)).1,(if 0 ≤ i∧i < l.length then (out.getD i.toNat [],(0:Int)) else ([],3)).2,out,(out.length:Int),(k:Int)))
   (.inr (l,i,(if 0 ≤ i∧i < l.length then (out.getD i.toNat [],(0:Int)) else ([],3)).1,(if 0 ≤ i∧i < l.length then (out.getD i.toNat [],(0:Int)) else ([],3)).2,out)) (by
    intro k hk
    unfold Z4q
    simp only
    rw [bif_t (decide_eq_true (by omega)),bif_t (Y7m hk),bif_t (Y7m hk),Yg0,getAtL _ hk,Ydb _ (by have:=(hb _ (List.getElem_mem hk)).1; omega),wrapI (by omega) (by omega)]
    rfl) (by
    unfold Z4q
    simp only
    rw [bif_f (decide_eq_false (by omega))]) 0 (Nat.zero_le _)
  rw [show loop Z4q (l,i,out,_,_,out,((out.length:Nat):Int),0)=_ from key]
  simp only [Option.bind_some]
  by_cases h1:i < 0
  ·rw [bif_t (decide_eq_true h1),if_neg (by omega)]; rfl
  rw [bif_f (decide_eq_false h1)]
  by_cases h2:i ≥ l.length
  ·rw [bif_t (decide_eq_true h2),if_neg (by omega)]; rfl
  rw [bif_f (decide_eq_false h2),if_pos (by omega)]
  obtain ⟨n,rfl⟩:∃ n:Nat,i=n:=⟨i.toNat,by omega⟩
  have hn:n < out.length:=by omega
  rw [bif_t (by rfl),bif_t (Y7m hn),Yg0,Y70,show ((n:Int)).toNat=n from rfl,Ydb _ (by
   show (out.getD n []).length < 1000
   rw [show out.getD n []=out[n] by simp [List.getD,hn]]
   have:=(hb _ (List.getElem_mem hn)).1; omega)]
  rfl
 ·rw [Yf7 (by omega) (by omega) h,Yf9 (by omega) (by omega) h,Y5z (by omega) (by omega) h,tB_f h]
  rfl
end Go.Proofs.Ytifbgkikkiallaa.VX.VxE_S

