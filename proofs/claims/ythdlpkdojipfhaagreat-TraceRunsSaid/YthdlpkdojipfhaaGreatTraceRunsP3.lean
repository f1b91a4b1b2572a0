/- Laid for the law TraceRuns. -/
import Derived.Test.YthdlpkdojipfhaaGreatTraceRunsP2
set_option linter.unusedVariables false
set_option linter.unusedSimpArgs false
namespace Go.Proofs.YthdlpkdojipfhaaGreat.VX.VxM_M
open Go.Proofs
def capsOK (caps:List Int):Prop:=caps.length ≤ 4∧∀ n ∈ caps,-1 ≤ n∧n ≤ 3
def Y8 (caps:List Int) (l:List Ev) (r:Int):Prop :=
 (r=-1∧GoodL caps l) ∨ ∃ i:Nat,∃ h:i < l.length,r=i∧¬ goodE caps (l.take i) l[i]∧GoodL caps (l.take i)
theorem Y7 {caps:List Int} {l:List Ev} (k:Nat):GoodL caps (l.take k) ↔ ∀ i (h:i < l.length),i < k→goodE caps (l.take i) l[i]:=by
 constructor
 ·intro h i hi hk;have:=h i (by simp; omega);rw [List.take_take,Nat.min_eq_left (by omega)] at this;simpa using this
 ·intro h i hi;have h':=hi;simp only [List.length_take] at h';rw [List.take_take,Nat.min_eq_left (by omega)];simpa using h i (by omega) (by omega)
theorem Y6 {caps:List Int} {l:List Ev}:GoodL caps l ↔ GoodL caps (l.take l.length):=by rw [List.take_length]
theorem Y8.uniq {caps:List Int} {l:List Ev} {r s:Int} (h:Y8 caps l r) (h2:Y8 caps l s):r=s:=by
 rcases h with ⟨rfl,a⟩ | ⟨i,hi,rfl,a,b⟩ <;> rcases h2 with ⟨rfl,c⟩ | ⟨j,hj,rfl,c,d⟩
 ·rfl
 ·exact absurd (a j hj) c
 ·exact absurd (c i hi) a
 ·rcases Nat.lt_trichotomy i j with h | h | h
  ·exact absurd ((Y7 j).1 d i hi h) a
  ·rw [h]
  ·exact absurd ((Y7 i).1 b j hj h) c
theorem Y8.take {caps:List Int} {l:List Ev} {r:Int} (h:Y8 caps l r) (k:Nat):Y8 caps (l.take k) (if 0 ≤ r∧r < k then r else -1):=by
 rcases h with ⟨rfl,a⟩ | ⟨i,hi,rfl,a,b⟩
 ·rw [if_neg (by omega)];exact .inl ⟨rfl,(Y7 k).2 fun i hi _=>a i hi⟩
 ·by_cases hk:i < k
  ·rw [if_pos (by omega)];refine .inr ⟨i,by simp; omega,rfl,?_,?_⟩
   ·rw [List.take_take,Nat.min_eq_left (by omega)]; simpa using a
   ·rw [List.take_take,Nat.min_eq_left (by omega)]; exact b
  ·rw [if_neg (by omega)];exact .inl ⟨rfl,(Y7 k).2 fun j hj hjk=>(Y7 i).1 b j hj (by omega)⟩
theorem Y8.range {caps:List Int} {l:List Ev} {r:Int} (h:Y8 caps l r):-1 ≤ r∧(r < l.length):=by
 rcases h with ⟨rfl,a⟩ | ⟨i,hi,rfl,a,b⟩ <;> omega
theorem getAtE {l:List Ev} {i:Nat} (h:i < l.length):getAt ((0:Int),((0:Int),((0:Int),((0:Int),(0:Int))))) l (toN (i:Int))=l[i]:=getAtL _ h
theorem cutE (l:List Ev) (i:Nat):cut l (toN 0) (toN (i:Int) - toN 0)=l.take i:=rfl
theorem jok0 (caps:List Int):JOK caps [] (caps,[0,0,0,0,0,0,0,0],0,[],[],orgM) where
 caps:=rfl
 len:=rfl
 last:=by intro g hg; show [0,0,0,0,0,0,0,0].getD g 0=0; rcases (by omega:g=0 ∨ g=1 ∨ g=2 ∨ g=3 ∨ g=4 ∨ g=5 ∨ g=6 ∨ g=7) with rfl | rfl | rfl | rfl | rfl | rfl | rfl | rfl <;> rfl
 begun:=rfl
 count:=fun k o=>rfl
 first:=fun o=>rfl
 orig:=rfl
theorem Yj8 {caps:List Int} {l:List Ev} (hl:l.length < 100000) (hc:capsOK caps):∀ x:Nat × JSt,x.1 ≤ l.length∧JOK caps (l.take x.1) x.2∧GoodL caps (l.take x.1) →
  ∃ y,loop Zb3 (l,l,l.length,(x.1:Int),x.2)=some y∧((∃ i,y=.inl (i,0)∧0 ≤ i∧Y8 caps l i) ∨ y=.inr ()∧GoodL caps l):=by
 have:∀ d (k:Nat) (s:JSt),l.length - k=d→k ≤ l.length→JOK caps (l.take k) s→GoodL caps (l.take k) →
   ∃ y,loop Zb3 (l,l,l.length,(k:Int),s)=some y∧((∃ i,y=.inl (i,0)∧0 ≤ i∧Y8 caps l i) ∨ y=.inr ()∧GoodL caps l):=by
  intro d;induction d with
  | zero =>
   intro k s h1 h2 h3 h4;obtain rfl:k=l.length:=by omega
   refine ⟨.inr (),?_,.inr ⟨rfl,Y6.2 h4⟩⟩;rw [Y9s];unfold Zb3;simp only;rw [bif_f (decide_eq_false (by omega))]
  | succ d ih =>
   intro k s h1 h2 h3 h4;have hk:k < l.length:=by omega
   have hG:∀ x ∈ l.take k,0 ≤ x.1:=Y7m h4;obtain ⟨s',e1,e2⟩:=may_eq h3 l[k] (by simp; omega) hc.2 hc.1 hG;rw [Y9s]
   have step:Zb3 (l,l,l.length,(k:Int),s)=bif tB (goodE caps (l.take k) l[k]) then some (.inl (l,l,(l.length:Int),((k+1:Nat):Int),s')) else some (.inr (.inl ((k:Int),0))):=by
    unfold Zb3;simp only;rw [bif_t (decide_eq_true (by omega)),bif_t (Y82 hk),bif_t (sub3L.2 ⟨by omega,by omega,by omega⟩),getAtE hk,cutE];rw [show (l.take k,l[k],s.1,s.2.1,s.2.2.1,s.2.2.2.1,s.2.2.2.2.1,s.2.2.2.2.2)=(l.take k,l[k],s) from rfl,e1];simp only [Option.bind_some];by_cases hg:goodE caps (l.take k) l[k]
    ·rw [tB_t hg,wrapI (by omega) (by omega)]; rfl
    ·rw [tB_f hg]; rfl
   rw [step];by_cases hg:goodE caps (l.take k) l[k]
   ·rw [bif_t (tB_t hg)];refine ih (k+1) s' (by omega) (by omega) ?_ ?_
    ·rw [← List.take_append_getElem hk]; exact e2 hg
    ·refine (Y7 (k+1)).2 fun i hi hik=>?_
     by_cases h:i=k
     ·subst h; exact hg
     ·exact (Y7 k).1 h4 i hi (by omega)
   ·rw [bif_f (tB_f hg)];exact ⟨_,rfl,.inl ⟨k,rfl,by omega,.inr ⟨k,hk,rfl,hg,h4⟩⟩⟩
 exact fun x h=>this _ x.1 x.2 rfl h.1 h.2.1 h.2.2
theorem Y7z (n:Int):Z7f n=some (!decide (-1 ≤ n∧n ≤ 3)):=by
 unfold Z7f;rw [tin_eq]; rfl
theorem Y31 (caps:List Int) (h:caps.length < 1000):Z6m caps=some (tB (¬ ∀ n ∈ caps,-1 ≤ n∧n ≤ 3)):=by
 have hf:=Y9t (f:=Zaz) caps (fun n=>!decide (-1 ≤ n∧n ≤ 3)) (fun k=>(caps,(caps.length:Int),(k:Int))) (fun k=>.inl (k:Int)) (.inr ()) (by
   intro k hk;unfold Zaz;simp only;rw [bif_t (decide_eq_true (by omega)),bif_t (Y82 hk),Yif,getAtL _ hk,Y7z,wrapI (by omega) (by omega)];simp only [Option.bind_some];cases hb:!decide (-1 ≤ caps[k]∧caps[k] ≤ 3)
   ·rfl
   ·rfl) (by
   unfold Zaz;simp only;rw [bif_f (decide_eq_false (by omega))])
 unfold Z6m Z7a;rw [show loop Zaz (caps,((caps.length:Nat):Int),0)=_ from hf];simp only [Option.bind_some];cases hfi:caps.findIdx? (fun n=>!decide (-1 ≤ n∧n ≤ 3)) with
 | none =>
  have:=List.findIdx?_eq_none_iff.1 hfi;simp only [Option.bind_some];rw [tB_f (fun h=>h fun n hn=>by simpa using this n hn)]; rfl
 | some i =>
  obtain ⟨hi,hp,_⟩:=List.findIdx?_eq_some_iff_getElem.1 hfi;simp only [Option.bind_some];rw [tB_t (fun h=>by have:=h _ (List.getElem_mem hi); simp at hp; omega),decide_eq_true (by omega)]
theorem Yij (caps:List Int) (l:List Ev) (hn:caps.length < 1000) (hl:l.length < 100000) :
  ∃ r e,Z7e (caps,l)=some (r,e)∧(capsOK caps∧e=0∧Y8 caps l r ∨ ¬ capsOK caps∧e=1∧r=0):=by
 unfold Z7e;simp only;by_cases h4:caps.length ≤ 4
 case neg =>
  rw [bif_t (decide_eq_true (by omega))];exact ⟨_,_,rfl,.inr ⟨fun h=>h4 h.1,rfl,rfl⟩⟩
 rw [bif_f (decide_eq_false (by omega)),Y31 caps hn];simp only [Option.bind_some];by_cases hc:∀ n ∈ caps,-1 ≤ n∧n ≤ 3
 case neg =>
  rw [tB_t hc];exact ⟨_,_,rfl,.inr ⟨fun h=>hc h.2,rfl,rfl⟩⟩
 rw [tB_f (fun h=>h hc)];simp only [cond_false,Ych,Option.bind_some];have hr:∀ s:JSt,Z7z s=some s:=fun s=>rfl
 rw [show ((caps,[0,0,0,0,0,0,0,0],0,([]:List ((Int × Int) × Int)),([]:List (Int × Int)),orgM))=(show JSt from (caps,[0,0,0,0,0,0,0,0],0,[],[],orgM)) from rfl,hr];simp only [Option.bind_some];obtain ⟨y,e1,e2⟩:=Yj8 hl ⟨h4,hc⟩ (0,(caps,[0,0,0,0,0,0,0,0],0,[],[],orgM)) ⟨Nat.zero_le _,jok0 caps,fun i h=>by simp at h⟩;have e1:loop Zb3 (l,l,(l.length:Int),0,caps,[0,0,0,0,0,0,0,0],0,[],[],orgM)=some y:=e1;rw [e1];rcases e2 with ⟨i,rfl,h0,h1⟩ | ⟨rfl,h1⟩
 ·exact ⟨_,_,rfl,.inl ⟨⟨h4,hc⟩,rfl,h1⟩⟩
 ·exact ⟨_,_,rfl,.inl ⟨⟨h4,hc⟩,rfl,.inl ⟨rfl,h1⟩⟩⟩
end Go.Proofs.YthdlpkdojipfhaaGreat.VX.VxM_M
namespace Go.Proofs.YthdlpkdojipfhaaGreat.VX.VxM_M
open Go.Proofs
end Go.Proofs.YthdlpkdojipfhaaGreat.VX.VxM_M
namespace Go.Proofs.YthdlpkdojipfhaaGreat.VX.VxM_M
open Go.Proofs
theorem Y1e:Z3r ()=some true:=by
 unfold Z3r;obtain ⟨r,e,h1,h2⟩:=Yij [] [(0,0,0,0,-1),(1,16,0,0,-1)] (by decide) (by decide);have h1:Z7e ([],[(0,0,0,0,Int.negSucc 0),(1,16,0,0,Int.negSucc 0)])=some (r,e):=h1;simp only [h1,Option.bind_some];rcases h2 with ⟨hc,rfl,hw⟩ | ⟨hc,_⟩
 ·have hw2:Y8 [] [(0,0,0,0,-1),(1,16,0,0,-1)] 1:=by
   refine .inr ⟨1,by decide,rfl,?_,?_⟩
   ·intro q;have:=q.2;rw [if_neg (by decide)] at this;exact this.1 (by rfl)
   ·intro i hi;have hi:i < 1:=hi;obtain rfl:i=0:=by omega
    show goodE [] [] (0,0,0,0,-1);refine ⟨⟨by decide,by decide,by decide,by decide,by decide,by decide,by decide⟩,?_⟩;rw [if_pos (by rfl)];exact ⟨rfl,rfl,rfl,by rw [if_pos (by rfl)]⟩
  rw [hw.uniq hw2]; rfl
 ·exact absurd ⟨by decide,by simp⟩ hc
theorem Y34 {p:Pg} (hp:RightP p):capsOK p.1:=⟨Y33 hp,fun n hn=>hp.caps n hn⟩
theorem modk (k:Int) (n:Nat) (hn:n ≤ 100000):∃ j:Nat,j ≤ n∧Int.tmod (IntKind.wrap .i64 (IntKind.wrap .i64 (Int.tmod k (IntKind.wrap .i64 ((n:Int)+1))+n)+1)) (IntKind.wrap .i64 ((n:Int)+1))=j:=by
 rw [wrapI (n:=(n:Int)+1) (by omega) (by omega)];have t1:=Int.tmod_lt_of_pos k (show (0:Int) < n+1 by omega);have t2:=Int.lt_tmod_of_pos k (show (0:Int) < n+1 by omega);rw [wrapI (n:=Int.tmod k (n+1)+n) (by omega) (by omega),wrapI (by omega) (by omega)];have t3:0 ≤ Int.tmod (Int.tmod k (n+1)+n+1) (n+1):=Int.tmod_nonneg _ (by omega);have t4:=Int.tmod_lt_of_pos (Int.tmod k (n+1)+n+1) (show (0:Int) < n+1 by omega);exact ⟨(Int.tmod (Int.tmod k (n+1)+n+1) (n+1)).toNat,by omega,by omega⟩
theorem Y76 (x:Int):1 ≤ IntKind.wrap .i64 (1+Int.tmod (IntKind.wrap .i64 (Int.tmod x 150+150)) 150)∧IntKind.wrap .i64 (1+Int.tmod (IntKind.wrap .i64 (Int.tmod x 150+150)) 150) ≤ 150:=by
 have h1:Int.tmod x 150 < 150:=Int.tmod_lt_of_pos _ (by decide);have h2:-150 < Int.tmod x 150:=by simpa using Int.lt_tmod_of_pos x (show (0:Int) < 150 by decide)
 rw [wrapI (n:=Int.tmod x 150+150) (by omega) (by omega)];have h3:0 ≤ Int.tmod (Int.tmod x 150+150) 150:=Int.tmod_nonneg _ (by omega);have h4:Int.tmod (Int.tmod x 150+150) 150 < 150:=Int.tmod_lt_of_pos _ (by decide);rw [wrapI (by omega) (by omega)];omega
theorem Yig (p:Pg) (P:List Int) (x k:Int) (hs:small p):F_plaitlaw14_TraceRuns (p,P,x,k)=some true:=by
 have hPl:(P.take 150).length ≤ 150:=by simp; omega
 have hcv:=cutm P 150;unfold F_plaitlaw14_TraceRuns;simp only;have hn:=Y76 x;generalize IntKind.wrap .i64 (1+Int.tmod (IntKind.wrap .i64 (Int.tmod x 150+150)) 150)=n at *;rw [bif_t (sub3L.2 ⟨by omega,by omega,by omega⟩),show cut P (toN 0) (toN (Min.min ((P.length:Nat):Int) 150) - toN 0)=P.take 150 from hcv];generalize P.take 150=P at *;rw [run_x p hs P (by omega)];simp only [Option.bind_some];unfold runF;by_cases hq:rightP p
 case neg =>
  simp only [if_pos hq];rw [bif_t (by rfl),Y1e];simp only [Option.bind_some];rw [bif_t (by rfl),Yf4 p hs];simp only [Option.bind_some];rw [bif_t (by rfl),decide_eq_false hq];rfl
 have hR:=(Yeo p).1 hq;simp only [hq,not_true_eq_false,if_false,if_neg (show ¬ (n < 1 ∨ 400 < n) by omega)];have ln:=(Yfj hR P n (by omega)).1;have hG:=Yfq hR P n (by omega);have hpos:0 < (runP p P n).2.1.length:=by show 0 < _+1; omega
 have hc:=Y34 hR;have h4:=hc.1;generalize (runP p P n).2.1=l at *;obtain ⟨r,e,h1,h2⟩:=Yij p.1 l (by omega) (by omega);rcases h2 with ⟨_,rfl,hw⟩ | ⟨hc2,_⟩
 case inr=>exact absurd hc hc2
 obtain rfl:r=-1:=hw.uniq (.inl ⟨rfl,hG⟩);obtain ⟨j,hj,hk⟩:=modk k l.length (by omega);rw [hk,h1];have hw2:IntKind.wrap .i64 (((l.length:Nat):Int)+1) ≠ 0:=by rw [wrapI (by omega) (by omega)]; omega
 obtain ⟨r',e',h1',h2'⟩:=Yij p.1 (l.take j) (by omega) (by simp; omega);rcases h2' with ⟨_,rfl,hw'⟩ | ⟨hc2,_⟩
 case inr=>exact absurd hc hc2
 obtain rfl:r'=-1:=hw'.uniq (.inl ⟨rfl,Y7o hG j⟩);rw [bif_f (by rfl),bif_t (bne_iff_ne.2 hw2),bif_t (bne_iff_ne.2 hw2)];simp only [Option.bind_some];rw [bif_t (sub3L.2 ⟨by omega,by omega,by omega⟩),cutE,h1',Y1e];simp only [Option.bind_some];rw [bif_t (by rfl),bif_t (by rfl),bif_t (by rfl),bif_t (by rfl),bif_t (by rfl),decide_eq_true (by omega)]
theorem lt63 {n:Nat} (h:n ≤ maxLen):n < 9223372036854775808:=Nat.lt_of_le_of_lt h (by decide)
theorem Yhg {p:Pg} (h:Ty.wf y39 p):small p:=⟨lt63 h.1.1,lt63 h.2.2.2.2.1.1,lt63 h.2.2.2.2.2.1,fun s hs=>lt63 (h.2.2.2.2.1.2 s hs).1.1,fun b hb=>lt63 (h.2.2.2.2.2.2 b hb).1⟩
theorem traceRuns_wf (x:HL [y39,y0,.int .i64,.int .i64]) (h:wfHL [y39,y0,.int .i64,.int .i64] x):F_plaitlaw14_TraceRuns x=some true:=Yig x.1 x.2.1 x.2.2.1 x.2.2.2 (Yhg h.1)
end Go.Proofs.YthdlpkdojipfhaaGreat.VX.VxM_M

