/- Laid for the law MachineGoes. -/
import Derived.Test.YthdlpkdojipfhaaGreatMachineGoesP1
set_option linter.unusedVariables false
set_option linter.unusedSimpArgs false
namespace Go.Proofs.YthdlpkdojipfhaaGreat.VX.VxM_M
open Go.Proofs
section
variable {s s':MS} {g:Int}
def StK (s s':MS):Prop:=s'.st=s.st ∨ ((s'.st=3 ∨ s'.st=4)∧s'.gs=s.gs)
theorem Y49 (s:MS) (x:W) (k no:Int) (b:Bool):(s.done x k no b).st=s.st:=by
 unfold MS.done MS.done1
 split
 ·rfl
 ·split <;> rfl
theorem Yau (s:MS) (x:W) (k:Int) (b:Bool):StK s (s.pass x k b):=by
 unfold MS.pass
 split
 ·exact .inl rfl
 ·split
  ·exact .inr ⟨.inl rfl,rfl⟩
  ·left
   rw [Y49]
   split
   ·rfl
   ·rw [Y49]; rfl
theorem Yfk (nx:Nat→MS→MS) (h:∀ k s,(nx k s).st=s.st):∀ m k s,(upto nx k m s).st=s.st
 | 0,k,s=>rfl
 | m+1,k,s=>(Yfk nx h m (k+1) (nx k s)).trans (h k s)
theorem Ydu (s:MS) (k:Int) (l:List W):(s.shutL k l).st=s.st:=by
 have:∀ m j (q:MS × List Int),(upto (MS.shutS k l) j m q).1.st=q.1.st:=by
  intro m
  induction m with
  | zero=>exact fun j q=>rfl
  | succ m ih =>
   intro j q
   refine (ih (j+1) (MS.shutS k l j q)).trans ?_
   unfold MS.shutS
   split
   ·rfl
   ·exact Y49 _ _ _ _ _
 exact this l.length 0 (s,[])
theorem Yad (s:MS) (g t:Int) (l:List Cs):(s.offers g t l).st=s.st:=by
 unfold MS.offers
 exact Yfk (fun n (s:MS)=>(s.offer (g,(n:Int),t) (l.getD n (false,0)).2 (l.getD n (false,0)).1).2) (fun k q=>rfl) _ _ _
theorem Ye2 (s:MS) (l:List W):(s.skips l).st=s.st:=by
 unfold MS.skips
 exact Yfk (fun k (s:MS)=>s.skip (l.getD k zeroW).1 (l.getD k zeroW).2.2) (fun k q=>rfl) _ _ _
theorem Y12 {P:MS→Prop} (s:MS) (c:Cho) (h0:P (s.on c.1)) (h1:P (s.sendO c.1 (s.instr c.1).2.1)) (h2:P (s.recvO c.1 (s.instr c.1).2.1)) (h3:P (s.shutO c.1 (s.instr c.1).2.1)) (h4:P (s.selO c.1 c.2 (s.instr c.1).2.1)) (h5:P (s.lock c.1 (s.instr c.1).2.1)) (h6:P (s.unlock c.1 (s.instr c.1).2.1)) (h7:P (s.doO c.1 (s.instr c.1).2.1)) (h8:P (s.endO c.1 (s.instr c.1).2.1)) (h9:P (s.beginO c.1 (s.instr c.1).2.1)) (h10:P (s.access 16 c.1 (s.instr c.1).2.1)) (h11:P (s.access 17 c.1 (s.instr c.1).2.1)) (h12:P (s.to c.1 (s.instr c.1).2.1)) (h13:P (s.orElse c.1 (s.instr c.1).2.1)):P (s.act c):=by
 unfold MS.act
 by_cases c0:(s.instr c.1).1=0
 ·rw [if_pos c0]; exact h0
 rw [if_neg c0]
 by_cases c1:(s.instr c.1).1=1
 ·rw [if_pos c1]; exact h1
 rw [if_neg c1]
 by_cases c2:(s.instr c.1).1=2
 ·rw [if_pos c2]; exact h2
 rw [if_neg c2]
 by_cases c3:(s.instr c.1).1=3
 ·rw [if_pos c3]; exact h3
 rw [if_neg c3]
 by_cases c4:(s.instr c.1).1=4
 ·rw [if_pos c4]; exact h4
 rw [if_neg c4]
 by_cases c5:(s.instr c.1).1=5
 ·rw [if_pos c5]; exact h5
 rw [if_neg c5]
 by_cases c6:(s.instr c.1).1=6
 ·rw [if_pos c6]; exact h6
 rw [if_neg c6]
 by_cases c7:(s.instr c.1).1=7
 ·rw [if_pos c7]; exact h7
 rw [if_neg c7]
 by_cases c8:(s.instr c.1).1=8
 ·rw [if_pos c8]; exact h8
 rw [if_neg c8]
 by_cases c9:(s.instr c.1).1=9
 ·rw [if_pos c9]; exact h9
 rw [if_neg c9]
 by_cases c10:(s.instr c.1).1=10
 ·rw [if_pos c10]; exact h10
 rw [if_neg c10]
 by_cases c11:(s.instr c.1).1=11
 ·rw [if_pos c11]; exact h11
 rw [if_neg c11]
 by_cases c12:(s.instr c.1).1=12
 ·rw [if_pos c12]; exact h12
 rw [if_neg c12]
 exact h13
theorem act_st (s:MS) (c:Cho):StK s (s.act c):=by
 refine Y12 (P:=fun q=>StK s q) s c ?_ ?_ ?_ ?_ ?_ ?_ ?_ ?_ ?_ ?_ ?_ ?_ ?_ ?_
 ·exact .inl rfl
 ·exact Yau (s.tell (c.1,2,(s.instr c.1).2.1,0,-1)) _ _ _
 ·exact Yau (s.tell (c.1,4,(s.instr c.1).2.1,0,-1)) _ _ _
 ·unfold MS.shutO
  split
  ·exact .inr ⟨.inl rfl,rfl⟩
  ·left; rw [Ydu]; rfl
 ·unfold MS.selO
  split
  ·exact Yau (s.tell (c.1,8,(s.instr c.1).2.1,0,-1)) _ _ _
  ·split
   ·exact .inl rfl
   ·left
    exact Yad _ _ _ _
 ·unfold MS.lock
  split <;> exact .inl rfl
 ·unfold MS.unlock
  split
  ·exact .inr ⟨.inl rfl,rfl⟩
  ·split <;> exact .inl rfl
 ·unfold MS.doO
  split
  ·exact .inl rfl
  split
  ·exact .inl rfl
  split <;> exact .inl rfl
 ·unfold MS.endO
  split
  ·left
   exact Ye2 _ _
  ·exact .inr ⟨.inl rfl,rfl⟩
 ·unfold MS.beginO
  split
  ·exact .inr ⟨.inr rfl,rfl⟩
  ·exact .inl rfl
 ·exact .inl rfl
 ·exact .inl rfl
 ·exact .inl rfl
 ·unfold MS.orElse
  split <;> exact .inl rfl
structure SS (s:MS):Prop where
 go:s.st=0→anyS s.gs 0=true
 all:s.st=1→∀ x ∈ s.gs,x.2.2.1=2
 dead:s.st=2→(∀ x ∈ s.gs,x.2.2.1 ≠ 0)∧∃ x ∈ s.gs,x.2.2.1=1
 odd:s.st ≠ 0→s.st ≠ 1→∃ x ∈ s.gs,x.2.2.1 ≠ 2
theorem Y1a (gs:List Gor) (n:Int):anyS gs n=true ↔ ∃ x ∈ gs,x.2.2.1=n:=by
 unfold anyS
 rw [List.any_eq_true]
 constructor
 ·rintro ⟨x,hx,e⟩; exact ⟨x,hx,by simpa using e⟩
 ·rintro ⟨x,hx,e⟩; exact ⟨x,hx,by simpa using e⟩
theorem Ydr (hg:∀ x ∈ s.gs,0 ≤ x.2.2.1∧x.2.2.1 ≤ 2) (h:s.st=0 ∨ ((s.st=3 ∨ s.st=4)∧∃ x ∈ s.gs,x.2.2.1 ≠ 2)):SS s.settle:=by
 unfold MS.settle
 rcases h with h | ⟨h1,h2⟩
 ·by_cases c1:anyS s.gs 0=true
  ·rw [if_pos (.inr c1)]
   exact ⟨fun _=>c1,fun q=>by omega,fun q=>by omega,fun q _=>absurd h q⟩
  ·rw [if_neg (fun q=>q.elim (fun z=>z h) c1)]
   have h0:∀ x ∈ s.gs,x.2.2.1 ≠ 0:=fun x hx e=>c1 ((Y1a _ _).2 ⟨x,hx,e⟩)
   by_cases c2:anyS s.gs 1=true
   ·rw [if_pos c2]
    obtain ⟨x,hx,e⟩:=(Y1a _ _).1 c2
    exact ⟨fun q=>by have:(2:Int)=0:=q; omega,fun q=>by have:(2:Int)=1:=q; omega,fun _=>⟨h0,x,hx,e⟩,fun _ _=>⟨x,hx,by omega⟩⟩
   ·rw [if_neg c2]
    have h1:∀ x ∈ s.gs,x.2.2.1 ≠ 1:=fun x hx e=>c2 ((Y1a _ _).2 ⟨x,hx,e⟩)
    exact ⟨fun q=>by have:(1:Int)=0:=q; omega,fun _ x hx=>by have:=h0 x hx; have:=h1 x hx; have:=hg x hx; omega,fun q=>by have:(1:Int)=2:=q; omega,fun _ q=>absurd rfl q⟩
 ·rw [if_pos (.inl (by omega))]
  exact ⟨fun q=>by omega,fun q=>by omega,fun q=>by omega,fun _ _=>h2⟩
theorem Yer (h:GI s (-1)) {c:Cho} (hc:c ∈ s.chs) (ha:GI (s.clear.act c) (-1)):SS (s.step c):=by
 obtain ⟨h0,r,_,_⟩:=Y2y h hc
 refine Ydr (gi_st ha) ?_
 rcases act_st s.clear c with e | ⟨e1,e2⟩
 ·exact .inl (e.trans h0)
 ·refine .inr ⟨e1,gAt s.gs c.1,by rw [e2]; exact Y6b r.hg,?_⟩
  have:=r.st
  show (s.g c.1).2.2.1 ≠ 2
  omega
theorem new_ss {p:Pg} (hp:RightP p):SS (MS.new p):=by
 have hsz:=hp.sizes
 unfold Ydy at hsz
 simp only [Bool.and_eq_true,decide_eq_true_eq,Y6v] at hsz
 refine Ydr (fun x hx=>?_) (.inl rfl)
 have:x=gTo p (0,0,0,false) 0:=List.mem_singleton.1 hx
 rw [this]
 show 0 ≤ (if (0:Int)=_ then (2:Int) else 0)∧(if (0:Int)=_ then (2:Int) else 0) ≤ 2
 split <;> omega
theorem Y2z (h:SS s):s.chs=[] ↔ s.st ≠ 0:=by
 constructor
 ·intro e q
  obtain ⟨x,hx,e0⟩:=(Y1a _ _).1 (h.go q)
  obtain ⟨k,hk,ek⟩:=List.mem_iff_getElem.1 hx
  unfold MS.chs at e
  rw [if_neg (fun z=>z q)] at e
  have hg:s.g (k:Int)=x:=by
   show s.gs.getD (k:Int).toNat zGor=x
   rw [show (k:Int).toNat=k by omega,Y6f hk,ek]
  have:s.choG (k:Int) ≠ []:=by
   unfold MS.choG
   rw [if_neg (by rw [hg,e0]; simp)]
   split
   ·simp
   ·assumption
  have:=List.flatMap_eq_nil_iff.1 e k (List.mem_range.2 hk)
  contradiction
 ·intro q
  unfold MS.chs
  rw [if_pos q]
theorem Y15 {n:Nat} {e:Ev} (h:Adv n s s') (hL:s.L=[e]):∃ l,s'.L=e :: l:=by
 obtain ⟨f,f1,_⟩:=h.L
 exact ⟨f,by rw [f1,hL]; rfl⟩
theorem Y13 (s:MS) (hL:s.L=[]) (c:Cho):(s.act c).L=[] ∨ ∃ e l,(s.act c).L=e :: l∧e.1=c.1:=by
 have tl:∀ (s0:MS) (e:Ev),s0.L=[]→(s0.tell e).L=[e]:=fun s0 e h=>by show s0.L++[e]=[e]; rw [h]; rfl
 have hd:∀ {n:Nat} (s0 s':MS) (e:Ev),s0.L=[]→e.1=c.1→Adv n (s0.tell e) s'→s'.L=[] ∨ ∃ e l,s'.L=e :: l∧e.1=c.1:=fun s0 s' e h h1 a=>by
  obtain ⟨l,hl⟩:=Y15 a (tl s0 e h)
  exact .inr ⟨e,l,hl,h1⟩
 refine Y12 (P:=fun q=>q.L=[] ∨ ∃ e l,q.L=e :: l∧e.1=c.1) s c ?_ ?_ ?_ ?_ ?_ ?_ ?_ ?_ ?_ ?_ ?_ ?_ ?_ ?_
 ·exact .inl hL
 ·exact hd s _ (c.1,2,(s.instr c.1).2.1,0,-1) hL rfl (Adv.pass _ _ _ _)
 ·exact hd s _ (c.1,4,(s.instr c.1).2.1,0,-1) hL rfl (Adv.pass _ _ _ _)
 ·unfold MS.shutO
  split
  ·exact .inl hL
  ·exact hd (s.csset (s.instr c.1).2.1 (s.ch (s.instr c.1).2.1).close) _ (c.1,7,(s.instr c.1).2.1,0,-1) hL rfl ((Adv.on _ _).trans (Adv.shutL _ _ _))
 ·unfold MS.selO
  split
  ·exact hd s _ (c.1,8,(s.instr c.1).2.1,0,-1) hL rfl (Adv.pass _ _ _ _)
  ·split
   ·exact hd s _ (c.1,8,(s.instr c.1).2.1,0,-1) hL rfl ((Adv.tell _ _).trans (Adv.on _ _))
   ·exact hd s _ (c.1,8,(s.instr c.1).2.1,0,-1) hL rfl ((Adv.offers _ _ _ _).trans (Adv.wait _ _))
 ·unfold MS.lock
  split
  ·exact hd s _ (c.1,10,(s.instr c.1).2.1,0,-1) hL rfl ((Adv.lset _ _ _).trans (Adv.locked _ _ _ _))
  ·exact hd s _ (c.1,10,(s.instr c.1).2.1,0,-1) hL rfl ((Adv.lset _ _ _).trans (Adv.wait _ _))
 ·unfold MS.unlock
  split
  ·exact .inl hL
  ·split
   ·exact hd (s.lset (s.instr c.1).2.1 (given (s.lk (s.instr c.1).2.1).2).1) _ (c.1,12,(s.instr c.1).2.1,0,-1) hL rfl ((Adv.on _ _).trans (Adv.locked _ _ _ _))
   ·exact hd (s.lset (s.instr c.1).2.1 (given (s.lk (s.instr c.1).2.1).2).1) _ (c.1,12,(s.instr c.1).2.1,0,-1) hL rfl (Adv.on _ _)
 ·unfold MS.doO
  split
  ·exact hd s _ (c.1,13,(s.instr c.1).2.1,0,-1) hL rfl (Adv.wait _ _)
  split
  ·exact hd s _ (c.1,13,(s.instr c.1).2.1,0,-1) hL rfl ((Adv.oset _ _ _).trans (Adv.on _ _))
  split
  ·exact hd s _ (c.1,13,(s.instr c.1).2.1,0,-1) hL rfl ((Adv.oset _ _ _).trans (Adv.wait _ _))
  ·exact hd s _ (c.1,13,(s.instr c.1).2.1,0,-1) hL rfl ((Adv.oset _ _ _).trans (Adv.skip _ _ _))
 ·unfold MS.endO
  split
  ·exact hd (s.oset (s.instr c.1).2.1 (2,0,[])) _ (c.1,14,(s.instr c.1).2.1,0,-1) hL rfl ((Adv.on _ _).trans (Adv.skips _ _))
  ·exact .inl hL
 ·unfold MS.beginO
  split
  ·exact .inl hL
  ·refine .inr ⟨(c.1,1,s.gs.length,0,-1),[(s.gs.length,0,0,0,s.ev)],?_,rfl⟩
   show (s.L++[_])++[_]=_
   rw [hL]; rfl
 ·exact hd s _ (c.1,16,(s.instr c.1).2.1,0,-1) hL rfl (Adv.on _ _)
 ·exact hd s _ (c.1,17,(s.instr c.1).2.1,0,-1) hL rfl (Adv.on _ _)
 ·exact .inl hL
 ·unfold MS.orElse
  split <;> exact .inl hL
end
end Go.Proofs.YthdlpkdojipfhaaGreat.VX.VxM_M
set_option linter.unusedVariables false
set_option linter.unusedSimpArgs false
namespace Go.Proofs.YthdlpkdojipfhaaGreat.VX.VxM_M
open Go.Proofs
theorem Ydp (s:MS):s.settle.gs=s.gs:=by
 unfold MS.settle
 split
 ·rfl
 ·split <;> rfl
theorem Ydo (s:MS):s.settle.ev=s.ev:=by
 unfold MS.settle
 split
 ·rfl
 ·split <;> rfl
theorem Ydq (s:MS):s.settle.ls=s.ls∧s.settle.os=s.os:=by
 unfold MS.settle
 split
 ·exact ⟨rfl,rfl⟩
 ·split <;> exact ⟨rfl,rfl⟩
structure Fin (s:MS) (c:Cho) (s':MS):Prop where
 len:s.gs.length ≤ s'.gs.length∧s'.gs.length ≤ s.gs.length+1
 ev:s'.ev=s.ev+s'.L.length
 first:s'.L=[] ∨ ∃ e l,s'.L=e :: l∧e.1=c.1
 evs:∀ x ∈ s'.L,(0 ≤ x.1∧x.1 < s'.gs.length)∧-1 ≤ x.2.2.2.2∧x.2.2.2.2 < s'.ev
 oth:∀ k,k ≠ c.1→0 ≤ k→k < s.gs.length→s'.g k=s.g k ∨ ((s.g k).2.2.1=1∧cntK k s'.L=1∧(s'.g k).2.2.1 ≠ 1)
 ti:TI s'
section
variable {s:MS}
theorem Yeq {n:Nat} {cs:List Ch} (h:GoodN n s cs) (t:TI s) {c:Cho} (hc:c ∈ s.chs):Fin s c (s.step c):=by
 have h0:=h.gi.clear
 have hc0:c ∈ s.clear.chs:=hc
 have t0:TI s.clear:=t.ev rfl rfl rfl (Int.le_refl _)
 have hs:∀ a ∈ s.clear.cs,a.sent ≤ 70 * (n:Int):=h.sent
 obtain ⟨_,r,_,_⟩:=Y2y h0 hc0
 obtain ⟨e,e1,e2,e3⟩:=(Yep h.gi hc).L
 have hL:(s.step c).L=e:=e1
 have hev:(s.step c).ev=s.ev+(s.step c).L.length:=by rw [hL]; exact e3
 have hfirst:(s.step c).L=[] ∨ ∃ e l,(s.step c).L=e :: l∧e.1=c.1:=by
  have:=Y13 s.clear rfl c
  unfold MS.step
  rw [Ydm]; exact this
 have hti:∀ q:MS,TI q→TI q.settle:=fun q tq=>tq.ev (Ydn q) (Ydq q).1 (Ydq q).2 (by rw [Ydo]; exact Int.le_refl _)
 by_cases h9:(s.instr c.1).1=9
 ·have ha:s.clear.act c=s.clear.beginO c.1 (s.instr c.1).2.1:=by
   have hi:s.clear.instr c.1=s.instr c.1:=rfl
   unfold MS.act
   rw [hi,if_neg (by omega),if_neg (by omega),if_neg (by omega),if_neg (by omega),if_neg (by omega),if_neg (by omega),if_neg (by omega),if_neg (by omega),if_neg (by omega),if_pos h9]
  have hst:s.step c=(s.clear.beginO c.1 (s.instr c.1).2.1).settle:=by unfold MS.step; rw [ha]
  by_cases c8:s.gs.length=8
  ·have hb:s.clear.beginO c.1 (s.instr c.1).2.1={ s.clear with st:=4 }:=by unfold MS.beginO; rw [if_pos (show s.clear.gs.length=8 from c8)]
   rw [hb] at hst
   have hg2:(s.step c).gs=s.gs:=by rw [hst,Ydp]; rfl
   have hl2:(s.step c).L=[]:=by rw [hst,Ydm]; rfl
   refine ⟨by rw [hg2]; omega,hev,hfirst,fun x hx=>(by rw [hl2] at hx; cases hx),fun k _ _ _=>.inl ?_,by rw [hst]; exact hti _ (t0.ev rfl rfl rfl (Int.le_refl _))⟩
   unfold MS.g; rw [hg2]
  ·have hb:s.clear.beginO c.1 (s.instr c.1).2.1=((((s.clear.tell (c.1,1,s.gs.length,0,-1)).tell (s.gs.length,0,0,0,s.ev))).add (gTo s.p ((s.instr c.1).2.1,0,0,false) 0)).on c.1:=by unfold MS.beginO; rw [if_neg (show ¬ s.clear.gs.length=8 from c8)]; rfl
   rw [hb] at hst
   have hg2:(s.step c).gs.length=s.gs.length+1:=by rw [hst,Ydp]; show (List.set _ _ _).length=_; rw [List.length_set]; simp [MS.clear]
   have hl2:(s.step c).L=[(c.1,1,(s.gs.length:Int),0,-1),((s.gs.length:Int),0,0,0,s.ev)]:=by rw [hst,Ydm]; rfl
   have he2:(s.step c).ev=s.ev+2:=by rw [hev,hl2]; rfl
   have hgs:∀ k:Int,k ≠ c.1→0 ≤ k→k < s.gs.length→(s.step c).g k=s.g k:=by
    intro k q0 q1 q2
    have:(s.step c).g k=(((((s.clear.tell (c.1,1,s.gs.length,0,-1)).tell (s.gs.length,0,0,0,s.ev))).add (gTo s.p ((s.instr c.1).2.1,0,0,false) 0)).on c.1).g k:=by
     rw [hst]; unfold MS.g; rw [Ydp]
    rw [this,on_g _ r.hg.1 q1 q0]
    show (s.gs++[_]).getD k.toNat zGor=s.gs.getD k.toNat zGor
    have:k.toNat < s.gs.length:=by omega
    simp [List.getD,List.getElem?_append_left this]
   refine ⟨by rw [hg2]; omega,hev,hfirst,fun x hx=>?_,fun k q0 q1 q2=>.inl (hgs k q0 q1 q2),by rw [hst]; exact hti _ (t0.ev rfl rfl rfl (by show s.ev ≤ s.ev+1+1; omega))⟩
   have hr1:=r.hg.1
   have hr2:c.1 < s.gs.length:=r.hg.2
   have he0:=h.ev.1
   rw [hg2,he2]
   rw [hl2] at hx
   rcases List.mem_cons.1 hx with q | q
   ·rw [q]; exact ⟨⟨hr1,by show c.1 < ((s.gs.length+1:Nat):Int); omega⟩,by show (-1:Int) ≤ -1; omega,by show (-1:Int) < s.ev+2; omega⟩
   ·rw [List.mem_singleton.1 q]; exact ⟨⟨by show (0:Int) ≤ (s.gs.length:Int); omega,by show (s.gs.length:Int) < ((s.gs.length+1:Nat):Int); omega⟩,by show (-1:Int) ≤ s.ev; omega,by show s.ev < s.ev+2; omega⟩
 ·have hm:=Mv.act h0 t0 hc0 h.ev.1 h9
  obtain ⟨f,f1,f2,f3⟩:=hm.mv
  have hLf:(s.step c).L=f:=by
   unfold MS.step
   rw [Ydm,f1]; rfl
  have hg2:(s.step c).gs.length=s.gs.length:=by unfold MS.step; rw [Ydp]; exact hm.len
  have hgk:∀ k,(s.step c).g k=(s.clear.act c).g k:=fun k=>by unfold MS.step MS.g; rw [Ydp]
  have he2:(s.step c).ev=(s.clear.act c).ev:=by unfold MS.step; rw [Ydo]
  refine ⟨by omega,hev,hfirst,fun x hx=>?_,fun k q0 q1 q2=>?_,hti _ hm.ti⟩
  ·rw [hLf] at hx
   rw [hg2,he2]
   exact f3 x hx
  ·rw [hgk,hLf]
   rcases f2 k q0 q1 q2 with ⟨a,_⟩ | ⟨a,b,d⟩
   ·exact .inl a
   ·exact .inr ⟨a,b,d⟩
theorem new_ti (p:Pg):TI (MS.new p):=by
 have h0:TI (MS.new0 p):=by
  refine ⟨fun k b y hy=>?_,fun k y hy=>?_,fun k y hy=>?_⟩
  ·have:∀ b,((MS.new0 p).ch (k:Int)).mine b=[]:=by
    intro b
    show ((p.1.map AC.new).getD ((k:Int)).toNat zA).mine b=[]
    by_cases hk:k < p.1.length
    ·rw [show (p.1.map AC.new).getD ((k:Int)).toNat zA=AC.new (p.1.getD k 0) by simp [List.getD,hk]]
     cases b <;> rfl
    ·rw [show (p.1.map AC.new).getD ((k:Int)).toNat zA=zA by simp [List.getD,hk]]
     cases b <;> rfl
   rw [this] at hy; cases hy
  ·have:(MS.new0 p).lk (k:Int)=(false,[]):=by
    show (List.replicate p.2.1.toNat ((false,[]):Lk)).getD ((k:Int)).toNat (false,[])=_
    by_cases hk:k < p.2.1.toNat <;> simp [List.getD,hk]
   rw [this] at hy; cases hy
  ·have:(MS.new0 p).oc (k:Int)=zeroO:=by
    show (List.replicate p.2.2.1.toNat zeroO).getD ((k:Int)).toNat zeroO=_
    by_cases hk:k < p.2.2.1.toNat <;> simp [List.getD,hk]
   rw [this] at hy; cases hy
 unfold MS.new
 exact h0.ev (Ydn _) (Ydq _).1 (Ydq _).2 (by rw [Ydo]; show (0:Int) ≤ 0+1; omega)
theorem Y6m (ps:List Int) (n i:Int) (l:List Ev) (hl:l.length ≤ 1000) (w:WT) (c:Cho) (w':WT) (h:∀ x ∈ l,(0 ≤ x.1∧x.1 < w'.2.1.length)∧-1 ≤ x.2.2.2.2∧x.2.2.2.2 < w'.2.2.2.2.2.1) :
  ∃ m,(∀ k,lookI k m=cntK k l)∧loop Z82 (ps,n,i,l,(l.length:Int),0,w,c,w',[])=some (.inr (ps,n,i,w,c,w',m)):=by
 let nx:Nat→List (Int × Int)→List (Int × Int):=fun k m=>@mput Int Int (Ty.beq (.int .i64)) (l.getD k (0,0,0,0,0)).1 (lookI (l.getD k (0,0,0,0,0)).1 m+1) m
 have key:=Y8j (f:=Z82) l.length (fun k m=>(ps,n,i,l,(l.length:Int),(k:Int),w,c,w',m)) nx (fun j m=>∀ k,lookI k m=cntK k (l.take j)) (fun m=>.inr (ps,n,i,w,c,w',m)) (by
   intro j m hj hm
   have hz:getAt ((0:Int),((0:Int),((0:Int),((0:Int),(0:Int))))) l (toN (j:Int))=l.getD j (0,0,0,0,0):=by rw [Y6d]; rfl
   have hx:=h (l.getD j (0,0,0,0,0)) (by rw [Y6f hj]; exact List.getElem_mem hj)
   have hc0:cntK (l.getD j (0,0,0,0,0)).1 (l.take j) ≤ j:=by
    have:=List.countP_le_length (p:=fun x:Ev=>x.1 == (l.getD j (0,0,0,0,0)).1) (l:=l.take j)
    rw [List.length_take] at this
    unfold cntK; omega
   have hm0:=hm (l.getD j (0,0,0,0,0)).1
   have hw:IntKind.wrap .i64 (@mlook Int Int (Ty.beq (.int .i64)) (Ty.zero (.int .i64)) (l.getD j (0,0,0,0,0)).1 m+1)=lookI (l.getD j (0,0,0,0,0)).1 m+1:=wrapI (by have:@mlook Int Int (Ty.beq (.int .i64)) (Ty.zero (.int .i64)) (l.getD j (0,0,0,0,0)).1 m=cntK (l.getD j (0,0,0,0,0)).1 (l.take j):=hm0; omega) (by have:@mlook Int Int (Ty.beq (.int .i64)) (Ty.zero (.int .i64)) (l.getD j (0,0,0,0,0)).1 m=cntK (l.getD j (0,0,0,0,0)).1 (l.take j):=hm0; omega)
   refine ⟨?_,fun k=>?_⟩
   ·unfold Z82
    simp only [hz]
    rw [bif_t (decide_eq_true (by omega)),bif_t (Y6x hj),bif_f (decide_eq_false (by omega)),bif_f (decide_eq_false (by omega)),bif_f (decide_eq_false (by omega)),bif_f (decide_eq_false (by omega)),hw,wrapI (n:=(j:Int)+1) (by omega) (by omega)]
    rfl
   ·show lookI k (@mput Int Int (Ty.beq (.int .i64)) (l.getD j (0,0,0,0,0)).1 (lookI (l.getD j (0,0,0,0,0)).1 m+1) m)=_
    rw [Y85,← List.take_append_getElem hj,Y3i,← Y6f hj (0,0,0,0,0)]
    by_cases e:k=(l.getD j (0,0,0,0,0)).1
    ·rw [if_pos e,Y3j e.symm,← e,hm k]; omega
    ·rw [if_neg e,Y3k (fun q=>e q.symm),hm k]; rfl) (by
   intro m _
   unfold Z82
   simp only
   rw [bif_f (decide_eq_false (by omega))]) [] (fun k=>rfl)
 obtain ⟨k1,k2⟩:=key
 rw [List.take_length] at k2
 exact ⟨_,k2,k1⟩
theorem Y6n (ps:List Int) (n i:Int) {s s':MS} (hl:s.gs.length ≤ 1000) (cs cs':List Ch) (c:Cho) (m:List (Int × Int)) (hlen:s.gs.length ≤ s'.gs.length) (hm:∀ k,lookI k m=cntK k s'.L)
  (h:∀ k,k ≠ c.1→0 ≤ k→k < s.gs.length→s'.g k=s.g k ∨ ((s.g k).2.2.1=1∧cntK k s'.L=1∧(s'.g k).2.2.1 ≠ 1)) :
  loop Z84 (ps,n,i,s.gs,(s.gs.length:Int),0,s.w cs,c,s'.w cs',m)=some (.inr (ps,n,i,s.w cs,s'.w cs')):=by
 have key:=Y8c (f:=Z84) s.gs.length (fun k=>(ps,n,i,s.gs,(s.gs.length:Int),(k:Int),s.w cs,c,s'.w cs',m)) (.inr (ps,n,i,s.w cs,s'.w cs')) (fun k hk=>by
  have hk2:inb (k:Int) s'.gs.length=true:=Y6x (by omega)
  have hlk:@mlook Int Int (Ty.beq (.int .i64)) (Ty.zero (.int .i64)) (k:Int) m=cntK (k:Int) s'.L:=hm (k:Int)
  have h1:=h (k:Int)
  unfold Z84
  simp only [gAt_eq]
  rw [bif_t (decide_eq_true (by omega)),bif_t (Y6x hk),wrapI (n:=(k:Int)+1) (by omega) (by omega)]
  by_cases e:(k:Int)=c.1
  ·rw [bif_f (show ((k:Int) != c.1)=false by simp [e])]; rfl
  rw [bif_t (bne_iff_ne.2 e),bif_t hk2]
  rcases h1 e (by omega) (by omega) with q | ⟨q1,q2,q3⟩
  ·have q:gAt s'.gs (k:Int)=gAt s.gs (k:Int):=q
   rw [q,bif_f (by simp)]; rfl
  ·have q1:(gAt s.gs (k:Int)).2.2.1=1:=q1
   have q3:(gAt s'.gs (k:Int)).2.2.1 ≠ 1:=q3
   have hne:((gAt s.gs (k:Int)).2.2.1 == (gAt s'.gs (k:Int)).2.2.1)=false:=beq_eq_false_iff_ne.2 (by rw [q1]; exact fun z=>q3 z.symm)
   rw [bif_t (by rw [hne]; simp),bif_f (by rw [q1]; rfl),hlk,q2,bif_f (by rfl),bif_t hk2,bif_f (beq_eq_false_iff_ne.2 q3)]; rfl) (by
  unfold Z84
  simp only
  rw [bif_f (decide_eq_false (by omega))]) 0 (Nat.zero_le _)
 exact key
end
end Go.Proofs.YthdlpkdojipfhaaGreat.VX.VxM_M
set_option linter.unusedVariables false
set_option linter.unusedSimpArgs false
namespace Go.Proofs.YthdlpkdojipfhaaGreat.VX.VxM_M
open Go.Proofs
def cntG (n:Int) (l:List Gor):Nat:=l.countP (fun x=>x.2.2.1 == n)
theorem Y3c (n:Int) (a b:List Gor):cntG n (a++b)=cntG n a+cntG n b:=List.countP_append ..
theorem Y3e (n:Int) (x:Gor):cntG n [x]=if x.2.2.1=n then 1 else 0:=by
 unfold cntG
 by_cases e:x.2.2.1=n
 ·rw [if_pos e]; simp [e]
 ·rw [if_neg e]; simp [e]
theorem Y3h (n:Int) (l:List Gor) {k:Nat} (hk:k < l.length):cntG n (l.take (k+1))=cntG n (l.take k)+if l[k].2.2.1=n then 1 else 0:=by
 rw [← List.take_append_getElem hk,Y3c,Y3e]
theorem Y3d (n:Int) (l:List Gor):cntG n l ≤ l.length:=List.countP_le_length
theorem Y3b {n:Int} {l:List Gor}:cntG n l=l.length ↔ ∀ x ∈ l,x.2.2.1=n:=by
 unfold cntG
 rw [List.countP_eq_length]
 constructor
 ·intro h x hx; simpa using h x hx
 ·intro h x hx; simpa using h x hx
theorem Y3g {l:List Gor} (h:∀ x ∈ l,x.2.2.1=1 ∨ x.2.2.1=2):cntG 2 l+cntG 1 l=l.length:=by
 induction l with
 | nil=>rfl
 | cons a l ih =>
  have:=ih (fun x hx=>h x (List.mem_cons_of_mem _ hx))
  have e:∀ n,cntG n (a :: l)=cntG n [a]+cntG n l:=fun n=>Y3c n [a] l
  rw [e,e,Y3e,Y3e]
  show _=l.length+1
  rcases h a (List.mem_cons_self ..) with q | q <;> rw [q] <;> simp <;> omega
theorem Y3f {n:Int} {l:List Gor} (h:∃ x ∈ l,x.2.2.1=n):0 < cntG n l:=by
 obtain ⟨x,hx,e⟩:=h
 exact List.countP_pos_iff.2 ⟨x,hx,by simpa using e⟩
theorem Y6l (gs:List Gor) (hl:gs.length ≤ 1000) (w:WT):loop Z80 (0,0,gs,(gs.length:Int),0,w)=some ((cntG 2 gs:Int),(cntG 1 gs:Int),w):=by
 have key:=Y8c (f:=Z80) gs.length (fun k=>((cntG 2 (gs.take k):Int),(cntG 1 (gs.take k):Int),gs,(gs.length:Int),(k:Int),w)) ((cntG 2 gs:Int),(cntG 1 gs:Int),w) (fun k hk=>by
  have hz:getAt ((0:Int),((0:Int),((0:Int),false))) gs (toN (k:Int))=gs[k]:=getAtL _ hk
  have a2:=Y3d 2 (gs.take k)
  have a1:=Y3d 1 (gs.take k)
  rw [List.length_take] at a1 a2
  rw [Y3h 2 gs hk,Y3h 1 gs hk]
  unfold Z80
  simp only [hz]
  rw [bif_t (decide_eq_true (by omega)),bif_t (Y6x hk),wrapI (n:=(k:Int)+1) (by omega) (by omega),wrapI (n:=(cntG 2 (gs.take k):Int)+1) (by omega) (by omega),wrapI (n:=(cntG 1 (gs.take k):Int)+1) (by omega) (by omega)]
  by_cases e2:gs[k].2.2.1=2
  ·rw [bif_t (beq_iff_eq.2 e2),if_pos e2,if_neg (by omega)]; rfl
  rw [bif_f (beq_eq_false_iff_ne.2 e2),if_neg e2]
  by_cases e1:gs[k].2.2.1=1
  ·rw [bif_t (beq_iff_eq.2 e1),if_pos e1]; rfl
  ·rw [bif_f (beq_eq_false_iff_ne.2 e1),if_neg e1]; rfl) (by
  unfold Z80
  simp only
  rw [bif_f (decide_eq_false (by omega)),List.take_length]) 0 (Nat.zero_le _)
 exact key
theorem machineGoes_law (p:Pg) (v:List Int):F_plaitlaw12_MachineGoes (p,v)=some true:=by
 have hvl:(v.take 120).length ≤ 120:=by simp; omega
 have hcv:=cutm v 120
 unfold F_plaitlaw12_MachineGoes
 simp only
 rw [few_x]
 simp only [Option.bind_some]
 have hsm:=Y52 p
 generalize fewP p=q at *
 obtain ⟨cs0,h1,h2⟩:=new_x q hsm
 rw [h2]
 simp only [Option.bind_some]
 by_cases hq:rightP q
 case neg =>
  rw [if_neg hq,bif_t (by rfl),Y16]
  rfl
 have hR:=(Ycc q).1 hq
 have g0:=Y9x hR (h1 hR)
 have hn1:(MS.new q).ev=1:=by unfold MS.new; rw [Ydo]; rfl
 have hn2:(MS.new q).gs.length=1:=by unfold MS.new; rw [Ydp]; rfl
 rw [if_pos hq,bif_f (by rfl),bif_f (by rfl)]
 simp only
 rw [hn1,bif_f (by rfl),hn2,bif_f (by rfl),Y16]
 simp only [Option.bind_some]
 rw [bif_f (by rfl),bif_t (sub3L.2 ⟨by omega,by omega,by omega⟩),show cut v (toN 0) (toN (Min.min ((v.length:Nat):Int) 120) - toN 0)=v.take 120 from hcv]
 generalize v.take 120=v at *
 have key:=Y8h (f:=Z86) (fun x=>∃ (n:Nat) (s:MS) (cs:List Ch),n ≤ v.length∧GoodN n s cs∧SS s∧TI s∧x=(v,(v.length:Int),(n:Int),s.w cs))
  (fun y=>y=.inl true ∨ y=.inr ()) (fun x=>(v.length - x.2.2.1).toNat) (by
   rintro x ⟨n,s,cs,hn,hg,hss,hti,rfl⟩
   by_cases hlt:n < v.length
   case neg =>
    right
    refine ⟨_,?_,.inr rfl⟩
    unfold Z86
    simp only
    rw [bif_f (decide_eq_false (by omega))]
   have hcl:=Y2x hg.gi
   have hgl:=hg.gi.gl
   have hw:IntKind.wrap .i64 ((n:Int)+1)=((n+1:Nat):Int):=wrapI (by omega) (by omega)
   have hnil:=Y2z hss
   unfold Z86
   simp only
   rw [bif_t (decide_eq_true (by omega)),bif_t (Y6x hlt),Y2w hg.rel hg.gi hg.ev.1]
   simp only [Option.bind_some]
   by_cases hne:s.chs=[]
   ·have hst:=hnil.1 hne
    right
    refine ⟨_,?_,.inl rfl⟩
    rw [hne,bif_f (by rw [show (s.st != 0)=true from bne_iff_ne.2 hst]; rfl),bif_t (by rfl),Y6l s.gs (by omega)]
    simp only [Option.bind_some]
    have hall:=@Y3b 2 s.gs
    by_cases e1:s.st=1
    ·have:=hall.2 (hss.all e1)
     rw [e1,this,bif_t (by simp),bif_t (by rfl)]
    ·have hodd:=hss.odd hst e1
     have hne2:cntG 2 s.gs ≠ s.gs.length:=fun e=>by
      obtain ⟨x,hx,z⟩:=hodd
      exact z (hall.1 e x hx)
     rw [bif_t (show ((s.st == 1) == ((cntG 2 s.gs:Int) == (s.gs.length:Int)))=true by rw [beq_eq_false_iff_ne.2 e1,beq_eq_false_iff_ne.2 (show (cntG 2 s.gs:Int) ≠ (s.gs.length:Int) by omega)]; rfl)]
     by_cases e2:s.st=2
     ·obtain ⟨d1,d2⟩:=hss.dead e2
      have hst2:=gi_st hg.gi
      have hsum:=Y3g (l:=s.gs) (fun x hx=>by have:=d1 x hx; have:=hst2 x hx; omega)
      have hpos:=Y3f d2
      rw [e2,bif_f (by rfl),bif_t (decide_eq_true (by omega)),wrapI (by omega) (by omega),show (cntG 2 s.gs:Int)+(cntG 1 s.gs:Int)=(s.gs.length:Int) by omega,beq_self_eq_true]
     ·rw [bif_t (bne_iff_ne.2 e2)]
   have hl0:¬ s.chs.length=0:=fun e=>hne (List.eq_nil_of_length_eq_zero e)
   have hst:s.st=0:=Classical.byContradiction fun q=>hne (hnil.2 q)
   obtain ⟨c,hc,ep⟩:=pick_x s.chs (getAt 0 v (toN (n:Int))) hne (by omega)
   obtain ⟨csc,gc,ec⟩:=hg.step (by omega) hc
   have hf:=Yeq hg hti hc
   have hll:=Yeo hg hc
   obtain ⟨_,r,_,_⟩:=Y2y hg.gi hc
   have hss2:SS (s.step c):=by
    obtain ⟨_,ra,rb,rc⟩:=Y2y hg.gi hc
    have hb:s.clear.Bd 100:=⟨by show 0+100 ≤ 900000; omega,hg.ev.1,by show s.ev+100 ≤ 3000000; have:=hg.ev.2; omega⟩
    exact Yer hg.gi hc (act_gi (s:=s.clear) (cs:=cs) hg.rel hg.gi.clear hc hb (fun a ha=>by have:=hg.sent a ha; omega))
   have hev:=hf.ev
   have hev0:=hg.ev
   rw [bif_f (show (!(((s.chs.length:Int) == 0) == (s.st != 0)))=false by rw [hst,beq_eq_false_iff_ne.2 (show (s.chs.length:Int) ≠ 0 by omega)]; rfl),bif_f (beq_eq_false_iff_ne.2 (by omega)),ep]
   simp only [Option.bind_some]
   rw [ec]
   simp only [Option.bind_some]
   have hg0:=r.hg.1
   have hg1:=r.hg.2
   have hst0:(gAt s.gs c.1).2.2.1=0:=r.st
   have hfl:=hf.len
   obtain ⟨m,m1,m2⟩:=Y6m v (v.length:Int) (n:Int) (s.step c).L (by omega) (s.w cs) c ((s.step c).w csc) hf.evs
   have m3:=Y6n v (v.length:Int) (n:Int) (s:=s) (s':=s.step c) (by omega) cs csc c m hf.len.1 m1 hf.oth
   simp only [gAt_eq]
   rw [bif_f (by rfl),wrapI (n:=s.ev+((s.step c).L.length:Int)) (by omega) (by omega),hev,bif_f (by simp),bif_f (decide_eq_false (by omega)),wrapI (n:=(s.gs.length:Int)+1) (by omega) (by omega),bif_f (decide_eq_false (by omega)),bif_f (decide_eq_false (by omega)),bif_f (decide_eq_false (by omega)),bif_t (inbL.2 r.hg),hst0,bif_f (by rfl)]
   left
   rcases hf.first with hL | ⟨e,l,hL,he⟩
   ·rw [bif_f (decide_eq_false (by rw [hL]; show ¬ ((0:Int) > 0); omega)),m2]
    simp only [Option.bind_some]
    rw [m3]
    simp only [Option.bind_some]
    rw [hw]
    exact ⟨_,rfl,⟨n+1,s.step c,csc,hlt,gc,hss2,hf.ti,rfl⟩,by simp only; omega⟩
   ·have hlen:0 < (s.step c).L.length:=by rw [hL]; show 0 < l.length+1; omega
    rw [bif_t (decide_eq_true (by omega)),bif_t (inbL.2 (by omega)),show getAt ((0:Int),((0:Int),((0:Int),((0:Int),(0:Int))))) (s.step c).L (toN 0)=e by rw [hL]; rfl,he,bif_f (by simp),m2]
    simp only [Option.bind_some]
    rw [m3]
    simp only [Option.bind_some]
    rw [hw]
    exact ⟨_,rfl,⟨n+1,s.step c,csc,hlt,gc,hss2,hf.ti,rfl⟩,by simp only; omega⟩) (v,(v.length:Int),((0:Nat):Int),(MS.new q).w cs0) ⟨0,MS.new q,cs0,Nat.zero_le _,g0,new_ss hR,new_ti q,rfl⟩
 obtain ⟨y,e,hy⟩:=key
 rw [show loop Z86 (v,(v.length:Int),0,(MS.new q).w cs0)=_ from e]
 rcases hy with hy | hy <;> subst hy <;> rfl
end Go.Proofs.YthdlpkdojipfhaaGreat.VX.VxM_M

