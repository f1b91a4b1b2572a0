/- Laid for the law MachineSteps. -/
import Derived.Test.YthdlpkdojipfhaaGreatMachineStepsP1
set_option linter.unusedVariables false
set_option linter.unusedSimpArgs false
namespace Go.Proofs.YthdlpkdojipfhaaGreat.VX.VxM_M
open Go.Proofs
structure Adv (n:Nat) (s s':MS):Prop where
 p:s'.p=s.p
 L:∃ e,s'.L=s.L++e∧e.length ≤ n∧s'.ev=s.ev+e.length
 sent:∀ m:Int,(∀ a ∈ s.cs,a.sent ≤ m)→∀ a ∈ s'.cs,a.sent ≤ m+n
theorem Adv.same {s s':MS} (hp:s'.p=s.p) (hL:s'.L=s.L) (he:s'.ev=s.ev) (hc:s'.cs=s.cs):Adv 0 s s' :=
 ⟨hp,⟨[],by rw [hL,List.append_nil],Nat.le_refl _,by rw [he]; simp⟩,fun m h a ha=>by rw [hc] at ha; have:=h a ha; omega⟩
theorem Adv.refl (s:MS):Adv 0 s s:=Adv.same rfl rfl rfl rfl
theorem Adv.le {n m:Nat} {s s':MS} (h:Adv n s s') (hm:n ≤ m):Adv m s s':=by
 obtain ⟨e,e1,e2,e3⟩:=h.L
 exact ⟨h.p,⟨e,e1,by omega,e3⟩,fun k hk a ha=>by have:=h.sent k hk a ha; omega⟩
theorem Adv.trans {n m:Nat} {s s' s'':MS} (h:Adv n s s') (k:Adv m s' s''):Adv (n+m) s s'':=by
 obtain ⟨e,e1,e2,e3⟩:=h.L
 obtain ⟨f,f1,f2,f3⟩:=k.L
 refine ⟨k.p.trans h.p,⟨e++f,by rw [f1,e1,List.append_assoc],by rw [List.length_append]; omega,by rw [f3,e3,List.length_append]; omega⟩,fun b hb a ha=>?_⟩
 have:=k.sent (b+n) (h.sent b hb) a ha
 omega
theorem Adv.tell (s:MS) (e:Ev):Adv 1 s (s.tell e):=⟨rfl,⟨[e],rfl,Nat.le_refl _,rfl⟩,fun m h a ha=>by have:=h a ha; omega⟩
theorem Adv.gset (s:MS) (g:Int) (x:Gor):Adv 0 s (s.gset g x):=Adv.same rfl rfl rfl rfl
theorem Adv.leave (s:MS) (g:Int):Adv 0 s (s.leave g):=⟨rfl,⟨[],by rw [List.append_nil]; rfl,Nat.le_refl _,by simp; rfl⟩,fun m h a ha=>by
 obtain ⟨b,hb,e⟩:=List.mem_map.1 ha
 have:=h b hb
 rw [← e]; show b.sent ≤ _; omega⟩
theorem Adv.on (s:MS) (g:Int):Adv 0 s (s.on g):=Adv.same rfl rfl rfl rfl
theorem Adv.to (s:MS) (g pc:Int):Adv 0 s (s.to g pc):=Adv.same rfl rfl rfl rfl
theorem Adv.wait (s:MS) (g:Int):Adv 0 s (s.wait g):=Adv.same rfl rfl rfl rfl
theorem Adv.offer (s:MS) (x:W) (k:Int) (b:Bool):Adv 1 s (s.offer x k b).2:=by
 refine ⟨rfl,⟨[],by rw [List.append_nil]; rfl,Nat.zero_le _,by simp; rfl⟩,fun m h a ha=>?_⟩
 by_cases hk:toN k < s.cs.length
 ·rcases List.mem_or_eq_of_mem_set (show a ∈ s.cs.set (toN k) ((s.ch k).off b x).1 from ha) with q | q
  ·have:=h a q; omega
  ·have h1:=(Ya5 (s.ch k) b x).sent
   have h2:=h (s.ch k) (Y8z hk zA)
   rw [q]; omega
 ·have:a ∈ s.cs.set (toN k) ((s.ch k).off b x).1:=ha
  rw [List.set_eq_of_length_le (by omega)] at this
  have:=h a this; omega
theorem Adv.done (s:MS) (x:W) (k no:Int) (b:Bool):Adv 1 s (s.done x k no b):=by
 unfold MS.done MS.done1
 split
 ·exact ((Adv.tell s _).trans (Adv.on _ _)).trans (Adv.leave _ _)
 ·split
  ·exact (((Adv.tell s _).trans (Adv.gset _ _ _)).trans (Adv.on _ _)).trans (Adv.leave _ _)
  ·exact (((Adv.tell s _).trans (Adv.gset _ _ _)).trans (Adv.on _ _)).trans (Adv.leave _ _)
theorem Adv.st (s:MS) (n:Int):Adv 0 s { s with st:=n }:=Adv.same rfl rfl rfl rfl
theorem Adv.pass (s:MS) (x:W) (k:Int) (b:Bool):Adv 3 s (s.pass x k b):=by
 unfold MS.pass
 split
 ·exact ((Adv.offer s x k b).trans (Adv.wait _ _)).le (by omega)
 ·split
  ·exact ((Adv.offer s x k b).trans (Adv.st _ _)).le (by omega)
  ·split
   ·exact ((Adv.offer s x k b).trans (Adv.done _ _ _ _ _)).le (by omega)
   ·exact ((Adv.offer s x k b).trans (Adv.done _ _ _ _ _)).trans (Adv.done _ _ _ _ _)
theorem Adv.upto {nx:Nat→MS→MS} {n:Nat} (h:∀ k q,Adv n q (nx k q)):∀ m k s,Adv (n * m) s (upto nx k m s)
 | 0,k,s=>Adv.refl s
 | m+1,k,s=>by
  have:=(h k s).trans (Adv.upto h m (k+1) (nx k s))
  rw [show n * (m+1)=n+n * m by rw [Nat.mul_add]; omega]
  exact this
theorem Adv.skip (s:MS) (g t:Int):Adv 1 s (s.skip g t):=(Adv.tell s _).trans (Adv.to _ _ _)
theorem Adv.skips (s:MS) (l:List W):Adv l.length s (s.skips l):=by
 have:=Adv.upto (nx:=fun k (s:MS)=>s.skip (l.getD k zeroW).1 (l.getD k zeroW).2.2) (n:=1) (fun k q=>Adv.skip q _ _) l.length 0 s
 rw [Nat.one_mul] at this; exact this
theorem Adv.shutL (s:MS) (k:Int) (l:List W):Adv l.length s (s.shutL k l):=by
 have:∀ m j (q:MS × List Int),Adv m q.1 (Go.Proofs.YthdlpkdojipfhaaGreat.VX.VxM_M.upto (MS.shutS k l) j m q).1:=by
  intro m
  induction m with
  | zero=>exact fun j q=>Adv.refl _
  | succ m ih =>
   intro j q
   have h1:Adv 1 q.1 (MS.shutS k l j q).1:=by
    unfold MS.shutS
    split
    ·exact (Adv.refl _).le (by omega)
    ·exact Adv.done _ _ _ _ _
   have:=h1.trans (ih (j+1) (MS.shutS k l j q))
   rw [Nat.add_comm] at this; exact this
 exact this l.length 0 (s,[])
theorem Adv.offers (s:MS) (g t:Int) (l:List Cs):Adv l.length s (s.offers g t l):=by
 have:=Adv.upto (nx:=fun n (s:MS)=>(s.offer (g,(n:Int),t) (l.getD n (false,0)).2 (l.getD n (false,0)).1).2) (n:=1) (fun k q=>Adv.offer q _ _ _) l.length 0 s
 rw [Nat.one_mul] at this; exact this
theorem Adv.locked (s:MS) (g a t:Int):Adv 1 s (s.locked g a t):=(Adv.tell s _).trans (Adv.on _ _)
theorem Adv.lset (s:MS) (k:Int) (l:Lk):Adv 0 s (s.lset k l):=Adv.same rfl rfl rfl rfl
theorem Adv.oset (s:MS) (k:Int) (o:On):Adv 0 s (s.oset k o):=Adv.same rfl rfl rfl rfl
theorem Adv.csclose (s:MS) (k:Int):Adv 0 s (s.csset k (s.ch k).close):=by
 refine ⟨rfl,⟨[],by rw [List.append_nil],Nat.zero_le _,by simp⟩,fun m h a ha=>?_⟩
 by_cases hk:toN k < s.cs.length
 ·rcases List.mem_or_eq_of_mem_set (show a ∈ s.cs.set (toN k) (s.ch k).close from ha) with q | q
  ·have:=h a q; omega
  ·have h2:=h (s.ch k) (Y8z hk zA)
   rw [q]; show (s.ch k).sent ≤ _; omega
 ·have:a ∈ s.cs.set (toN k) (s.ch k).close:=ha
  rw [List.set_eq_of_length_le (by omega)] at this
  have:=h a this; omega
theorem Adv.act {s:MS} (h:GI s (-1)) {c:Cho} (hc:c ∈ s.chs):Adv 70 s (s.act c):=by
 obtain ⟨_,r,_,_⟩:=Y2w h hc
 have hi:=r.inok h
 unfold MS.act
 by_cases c0:(s.instr c.1).1=0
 ·rw [if_pos c0]; exact (Adv.on _ _).le (by omega)
 rw [if_neg c0]
 by_cases c1:(s.instr c.1).1=1
 ·rw [if_pos c1]; exact ((Adv.tell s _).trans (Adv.pass _ _ _ _)).le (by omega)
 rw [if_neg c1]
 by_cases c2:(s.instr c.1).1=2
 ·rw [if_pos c2]; exact ((Adv.tell s _).trans (Adv.pass _ _ _ _)).le (by omega)
 rw [if_neg c2]
 by_cases c3:(s.instr c.1).1=3
 ·rw [if_pos c3]
  have h1:=hi.2.1
  rw [c3] at h1
  have hok:=h.chok (k:=(s.instr c.1).2.1) (by rw [h.cl]; exact h1)
  unfold MS.shutO
  split
  ·exact (Adv.st _ _).le (by omega)
  ·exact ((((Adv.csclose s _).trans (Adv.tell _ _)).trans (Adv.on _ _)).trans (Adv.shutL _ _ _)).le (by have:=hok.rw.2.1; omega)
 rw [if_neg c3]
 by_cases c4:(s.instr c.1).1=4
 ·rw [if_pos c4]
  have hl:=Yep h.rp (s.instr c.1).2.1
  unfold MS.selO
  split
  ·exact ((Adv.tell s _).trans (Adv.pass _ _ _ _)).le (by omega)
  ·split
   ·exact (((Adv.tell s _).trans (Adv.tell _ _)).trans (Adv.on _ _)).le (by omega)
   ·exact (((Adv.tell s _).trans (Adv.offers _ _ _ _)).trans (Adv.wait _ _)).le (by omega)
 rw [if_neg c4]
 by_cases c5:(s.instr c.1).1=5
 ·rw [if_pos c5]
  unfold MS.lock
  split
  ·exact (((Adv.tell s _).trans (Adv.lset _ _ _)).trans (Adv.locked _ _ _ _)).le (by omega)
  ·exact (((Adv.tell s _).trans (Adv.lset _ _ _)).trans (Adv.wait _ _)).le (by omega)
 rw [if_neg c5]
 by_cases c6:(s.instr c.1).1=6
 ·rw [if_pos c6]
  unfold MS.unlock
  split
  ·exact (Adv.st _ _).le (by omega)
  ·split
   ·exact ((((Adv.lset s _ _).trans (Adv.tell _ _)).trans (Adv.on _ _)).trans (Adv.locked _ _ _ _)).le (by omega)
   ·exact (((Adv.lset s _ _).trans (Adv.tell _ _)).trans (Adv.on _ _)).le (by omega)
 rw [if_neg c6]
 by_cases c7:(s.instr c.1).1=7
 ·rw [if_pos c7]
  unfold MS.doO
  split
  ·exact ((Adv.tell s _).trans (Adv.wait _ _)).le (by omega)
  ·split
   ·exact (((Adv.tell s _).trans (Adv.oset _ _ _)).trans (Adv.on _ _)).le (by omega)
   ·split
    ·exact (((Adv.tell s _).trans (Adv.oset _ _ _)).trans (Adv.wait _ _)).le (by omega)
    ·exact (((Adv.tell s _).trans (Adv.oset _ _ _)).trans (Adv.skip _ _ _)).le (by omega)
 rw [if_neg c7]
 by_cases c8:(s.instr c.1).1=8
 ·rw [if_pos c8]
  have h1:=hi.2.1
  rw [c8] at h1
  have hok:=h.ookk (k:=(s.instr c.1).2.1) (by rw [h.ol]; exact h1)
  unfold MS.endO
  split
  ·exact ((((Adv.oset s _ _).trans (Adv.tell _ _)).trans (Adv.on _ _)).trans (Adv.skips _ _)).le (by have:=hok.2.1.2.1; omega)
  ·exact (Adv.st _ _).le (by omega)
 rw [if_neg c8]
 by_cases c9:(s.instr c.1).1=9
 ·rw [if_pos c9]
  unfold MS.beginO
  split
  ·exact (Adv.st _ _).le (by omega)
  ·have h1:Adv 0 ((s.tell (c.1,1,s.gs.length,0,-1)).tell (s.gs.length,0,0,0,s.ev)) (((s.tell (c.1,1,s.gs.length,0,-1)).tell (s.gs.length,0,0,0,s.ev)).add (gTo s.p ((s.instr c.1).2.1,0,0,false) 0)):=Adv.same rfl rfl rfl rfl
   exact ((((Adv.tell s _).trans (Adv.tell _ _)).trans h1).trans (Adv.on _ _)).le (by omega)
 rw [if_neg c9]
 by_cases c10:(s.instr c.1).1=10
 ·rw [if_pos c10]; exact ((Adv.tell s _).trans (Adv.on _ _)).le (by omega)
 rw [if_neg c10]
 by_cases c11:(s.instr c.1).1=11
 ·rw [if_pos c11]; exact ((Adv.tell s _).trans (Adv.on _ _)).le (by omega)
 rw [if_neg c11]
 by_cases c12:(s.instr c.1).1=12
 ·rw [if_pos c12]; exact (Adv.to _ _ _).le (by omega)
 rw [if_neg c12]
 unfold MS.orElse
 split
 ·exact (Adv.to _ _ _).le (by omega)
 ·exact (Adv.on _ _).le (by omega)
theorem Adv.settle (s:MS):Adv 0 s s.settle:=by
 unfold MS.settle
 split
 ·exact Adv.refl _
 ·split <;> exact Adv.st _ _
theorem Yg1 {s:MS} (h:GI s (-1)) {c:Cho} (hc:c ∈ s.chs):Adv 70 s.clear (s.step c):=(Adv.act h.clear hc).trans (Adv.settle _)
structure GoodN (n:Nat) (s:MS) (cs:List Ch):Prop where
 rel:RelCs cs s.cs
 gi:GI s (-1)
 ev:0 ≤ s.ev∧s.ev ≤ 70 * n+1
 sent:∀ a ∈ s.cs,a.sent ≤ 70 * n
theorem GoodN.good {n:Nat} {s:MS} {cs:List Ch} (h:GoodN n s cs) (hn:n ≤ 1000):Good s cs :=
 ⟨h.rel,h.gi,⟨h.ev.1,by have:=h.ev.2; omega⟩,fun a ha=>by have:=h.sent a ha; omega⟩
theorem GoodN.step {n:Nat} {s:MS} {cs:List Ch} (h:GoodN n s cs) (hn:n ≤ 1000) {c:Cho} (hc:c ∈ s.chs):∃ cs',GoodN (n+1) (s.step c) cs'∧Z1a (s.w cs,c)=some ((s.step c).w cs',(s.step c).L,0):=by
 obtain ⟨g1,cs',g2,g3⟩:=Yg3 (h.good hn) hc
 have ha:=Yg1 h.gi hc
 obtain ⟨e,e1,e2,e3⟩:=ha.L
 have he:(s.step c).ev=s.ev+e.length:=e3
 refine ⟨cs',⟨g2,g1,⟨by have:=h.ev.1; omega,by have:=h.ev.2; omega⟩,fun a q=>?_⟩,g3⟩
 have:=ha.sent (70 * n) h.sent a q
 omega
def MS.new0 (p:Pg):MS:=⟨p,0,0,[(0,0,0,false)],p.1.map AC.new,List.replicate p.2.1.toNat (false,[]),List.replicate p.2.2.1.toNat zeroO,[]⟩
def MS.new (p:Pg):MS:=(((MS.new0 p).tell (0,0,0,0,-1)).to 0 0).settle
theorem new_gi {p:Pg} (hp:RightP p):GI (MS.new p) (-1):=by
 have hsz:=hp.sizes
 unfold Yfa at hsz
 simp only [Bool.and_eq_true,decide_eq_true_eq,Y6i] at hsz
 have h1:GI { (MS.new0 p) with gs:=[gTo p (0,0,0,false) 0] } (-1):=by
  have hx:gOK p (gTo p (0,0,0,false) 0):=by
   refine ⟨by show (0:Int) ≤ 0; omega,by show (0:Int) < (p.2.2.2.2.2.length:Int); omega,by show (0:Int) ≤ 0; omega,by show (0:Int) ≤ ((blk p 0).length:Int); omega,?_,?_,?_⟩
   ·show (0:Int) ≤ if (0:Int)=(blk p 0).length then 2 else 0
    split <;> omega
   ·show (if (0:Int)=(blk p 0).length then (2:Int) else 0) ≤ 2
    split <;> omega
   ·show (0:Int)=(blk p 0).length ↔ (if (0:Int)=(blk p 0).length then (2:Int) else 0)=2
    split
    ·rename_i e; exact ⟨fun _=>rfl,fun _=>e⟩
    ·rename_i e; exact ⟨fun q=>absurd q e,fun q=>by omega⟩
  have hch:∀ k:Nat,k < p.1.length→(p.1.map AC.new).getD k zA=AC.new (p.1.getD k 0):=by
   intro k hk; simp [List.getD,hk]
  have hmem:∀ k:Nat,k < p.1.length→p.1.getD k 0 ∈ p.1:=fun k hk=>Y8z hk 0
  refine ⟨hp,⟨by show 1 ≤ 1; omega,by show 1 ≤ 8; omega⟩,fun x hx'=>?_,by show (p.1.map AC.new).length=p.1.length; simp,fun a ha=>?_,fun k hk=>?_,fun k hk=>?_,?_,fun l hl=>?_,fun k hk x hx=>?_,?_,fun o ho=>?_,fun k hk x hx=>?_⟩
  ·rw [List.mem_singleton.1 hx']; exact hx
  ·obtain ⟨n,hn,e⟩:=List.mem_map.1 ha
   rw [← e]; exact AC.Ok.new (hp.caps n hn).1 (hp.caps n hn).2
  ·have hk:k < p.1.length:=by have:k < (p.1.map AC.new).length:=hk; simpa using this
   show ((p.1.map AC.new).getD k zA).cap=_
   rw [hch k hk]; rfl
  ·have hk:k < p.1.length:=by have:k < (p.1.map AC.new).length:=hk; simpa using this
   have e:MS.ch { (MS.new0 p) with gs:=[gTo p (0,0,0,false) 0] } (k:Int)=AC.new (p.1.getD k 0):=hch k hk
   rw [e]
   exact ⟨fun x hx=>(by cases hx),fun x hx=>(by cases hx)⟩
  ·show (((List.replicate p.2.1.toNat ((false,[]):Lk)).length:Nat):Int)=p.2.1
   rw [List.length_replicate]; omega
  ·rw [List.eq_of_mem_replicate hl]; exact ⟨⟨by simp,by simp,by simp⟩,.inr rfl⟩
  ·have hk:k < p.2.1.toNat:=by have:k < (List.replicate p.2.1.toNat ((false,[]):Lk)).length:=hk; simpa using this
   have e:MS.lk { (MS.new0 p) with gs:=[gTo p (0,0,0,false) 0] } (k:Int)=(false,[]):=by
    show (List.replicate p.2.1.toNat ((false,[]):Lk)).getD k (false,[])=_
    simp [List.getD,hk]
   rw [e] at hx; cases hx
  ·show (((List.replicate p.2.2.1.toNat zeroO).length:Nat):Int)=p.2.2.1
   rw [List.length_replicate]; omega
  ·rw [List.eq_of_mem_replicate ho]; exact ⟨by show (0:Int) ≤ 0; omega,⟨by simp [zeroO],by simp [zeroO],by simp [zeroO]⟩,.inr ⟨.inl rfl,rfl,rfl⟩⟩
  ·have hk:k < p.2.2.1.toNat:=by have:k < (List.replicate p.2.2.1.toNat zeroO).length:=hk; simpa using this
   have e:MS.oc { (MS.new0 p) with gs:=[gTo p (0,0,0,false) 0] } (k:Int)=zeroO:=by
    show (List.replicate p.2.2.1.toNat zeroO).getD k zeroO=_
    simp [List.getD,hk]
   rw [e] at hx; cases hx
 exact (h1.tell (0,0,0,0,-1)).settle
theorem new_x (p:Pg) (hs:small p):∃ cs,(RightP p→RelCs cs (MS.new p).cs)∧Z18 p=some (if rightP p then ((MS.new p).w cs,[(0,0,0,0,-1)],0) else (zeroWT,[],1)):=by
 unfold Z18
 rw [Yai p hs]
 simp only [Option.bind_some]
 by_cases hp:rightP p
 case neg =>
  refine ⟨[],fun q=>absurd ((Yck p).2 q) hp,?_⟩
  rw [decide_eq_false hp,if_neg hp]
  rfl
 have hp':=(Yck p).1 hp
 have hsz:=hp'.sizes
 unfold Yfa at hsz
 simp only [Bool.and_eq_true,decide_eq_true_eq,Y6i] at hsz
 rw [decide_eq_true hp,bif_f (by rfl),bif_t (Y99.2 ⟨hsz.2.1.1,Int.le_refl _,by omega⟩),bif_t (Y99.2 ⟨hsz.2.2.1.1,Int.le_refl _,by omega⟩)]
 have key:=Y83 (f:=Zb7) p.1.length (fun n=>(p.1,(p.1.length:Int),(n:Int),0,0,0,(0,0),p,(0,0),[((0:Int),((0:Int),((0:Int),false)))],(p.1.take n).map newC,List.replicate (toN p.2.1) (false,[]),List.replicate (toN p.2.2.1) (0,0,[])))
  (0,0,0,(0,0),p,(0,0),[((0:Int),((0:Int),((0:Int),false)))],p.1.map newC,List.replicate (toN p.2.1) (false,[]),List.replicate (toN p.2.2.1) (0,0,[])) (by
   intro n hn
   have hm:=hp'.caps p.1[n] (List.getElem_mem hn)
   unfold Zb7
   simp only
   rw [bif_t (decide_eq_true (by omega)),bif_t (Y6k hn),Ygp,getAtL _ hn,Y37,if_neg (by omega)]
   simp only [Option.bind_some]
   rw [bif_t (Y5a.2 (by simp; omega)),wrapI (by omega) (by omega),show (p.1.take n).map newC++newC p.1[n] :: []=(p.1.take (n+1)).map newC by rw [← List.take_append_getElem hn,List.map_append]; rfl]
   rfl) (by
   unfold Zb7
   simp only
   rw [bif_f (decide_eq_false (by omega)),List.take_length]) 0 (Nat.zero_le _)
 have hrel:RelCs (p.1.map newC) (p.1.map AC.new):=by
  refine ⟨by simp,fun k hk=>?_⟩
  have hk:k < p.1.length:=by simpa using hk
  have hm:=hp'.caps _ (Y8z hk 0)
  have e1:(p.1.map newC).getD k zeroC=newC (p.1.getD k 0):=by simp [List.getD,hk]
  have e2:(p.1.map AC.new).getD k zA=AC.new (p.1.getD k 0):=by simp [List.getD,hk]
  rw [e1,e2]
  exact RelC.new hm.1 hm.2
 have hset:∀ s:MS,s.settle.cs=s.cs:=fun s=>by
  unfold MS.settle
  split
  ·rfl
  ·split <;> rfl
 have hsetL:∀ s:MS,s.settle.L=s.L:=fun s=>by
  unfold MS.settle
  split
  ·rfl
  ·split <;> rfl
 refine ⟨p.1.map newC,fun _=>by show RelCs _ (MS.settle _).cs; rw [hset]; exact hrel,?_⟩
 rw [if_pos hp]
 rw [show loop Zb7 (p.1,(p.1.length:Int),0,0,0,0,(0,0),p,(0,0),(0,0,0,false) :: [],[],List.replicate (toN p.2.1) (false,[]),List.replicate (toN p.2.2.1) (0,0,[]))=_ from key]
 simp only [Option.bind_some,neg1]
 have hb:(MS.new0 p).Bd 1:=⟨by show 0+1 ≤ 900000; omega,by show (0:Int) ≤ 0; omega,by show (0:Int)+1 ≤ 3000000; omega⟩
 rw [show Z35 (0,0,0,0,-1,p,(0,0),(0,0,0,false) :: [],p.1.map newC,List.replicate (toN p.2.1) (false,[]),List.replicate (toN p.2.2.1) (0,0,[]),[])=some ((0:Int),((MS.new0 p).tell (0,0,0,0,-1)).t (p.1.map newC)) from tel_x (g:=0) (MS.new0 p) (p.1.map newC) 0 0 0 (-1) hb]
 simp only [Option.bind_some]
 have hto:=goTo_x p 1 0 [(0,0,0,false)] (p.1.map newC) (MS.new0 p).ls (MS.new0 p).os [(0,0,0,0,-1)] 0 0 ⟨by omega,by show (0:Int) < 1; omega⟩ (by show (0:Int) ≤ 0; omega) (by show (0:Int) < (p.2.2.2.2.2.length:Int); omega)
 rw [show Z24 (0,0,((MS.new0 p).tell (0,0,0,0,-1)).t (p.1.map newC))=some ((((MS.new0 p).tell (0,0,0,0,-1)).to 0 0).t (p.1.map newC)) from hto]
 simp only [Option.bind_some]
 rw [show Z2u ((((MS.new0 p).tell (0,0,0,0,-1)).to 0 0).t (p.1.map newC))=_ from Yf5 (((MS.new0 p).tell (0,0,0,0,-1)).to 0 0) (p.1.map newC) (by show 1 ≤ 1000; omega)]
 simp only [Option.bind_some]
 have hL:((((MS.new0 p).tell (0,0,0,0,-1)).to 0 0).settle).L=[(0,0,0,0,-1)]:=hsetL _
 rw [hL]
 rfl
theorem Y9p {p:Pg} (hp:RightP p) {cs:List Ch} (hr:RelCs cs (MS.new p).cs):GoodN 0 (MS.new p) cs:=by
 have ha:Adv 1 (MS.new0 p) (MS.new p):=((Adv.tell (MS.new0 p) (0,0,0,0,-1)).trans (Adv.to _ _ _)).trans (Adv.settle _)
 obtain ⟨e,e1,e2,e3⟩:=ha.L
 have he:(MS.new p).ev=0+e.length:=e3
 have hset:(MS.new p).cs=p.1.map AC.new:=by
  unfold MS.new MS.settle
  split
  ·rfl
  ·split <;> rfl
 refine ⟨hr,new_gi hp,⟨by omega,by omega⟩,fun a q=>?_⟩
 rw [hset] at q
 obtain ⟨n,_,z⟩:=List.mem_map.1 q
 rw [← z]; show (0:Int) ≤ _; omega
end Go.Proofs.YthdlpkdojipfhaaGreat.VX.VxM_M
set_option linter.unusedVariables false
set_option linter.unusedSimpArgs false
namespace Go.Proofs.YthdlpkdojipfhaaGreat.VX.VxM_M
open Go.Proofs
abbrev MS.r (s:MS) (cs:List Ch):WT × List Ev:=(s.w cs,s.L)
theorem RelC.to {c d:Ch} {a:AC} (h:RelC c a) (k:SameC c d):RelC d a where
 cap:=k.cap.symm.trans h.cap
 closed:=k.closed.symm.trans h.closed
 sent:=k.sent.symm.trans h.sent
 got:=k.got.symm.trans h.got
 sends:=k.sends.symm.trans h.sends
 recvs:=k.recvs.symm.trans h.recvs
 rok:=k.okb
 rcap:=k.bcap.symm.trans h.rcap
 items:=k.items.symm.trans h.items
theorem Ygf {α:Type} (l:List α) (g:Nat) (x:α) {n:Nat} (hn:n < l.length):(l.set g x).take (n+1)=(l.set g x).take n++[if n=g then x else l[n]]:=by
 have hn':n < (l.set g x).length:=by simpa using hn
 rw [← List.take_append_getElem hn',List.getElem_set]
 congr 2
 by_cases e:g=n
 ·rw [if_pos e,if_pos e.symm]
 ·rw [if_neg e,if_neg (fun q=>e q.symm)]
section
variable {s:MS} {g:Int}
theorem Ydu (s:MS) (cs:List Ch) (e:Ev) {m:Nat} (hb:s.Bd m):Z7j (s.r cs,e)=some ((s.tell e).r cs):=by
 unfold Z7j
 simp only [List.nil_append]
 rw [bif_t (Y5a.2 (by have:=hb.1; show 0+s.L.length ≤ _; omega)),bif_t (Y5a.2 (by have:=hb.1; show s.L.length+1 ≤ _; omega)),wrapI (by have:=hb.2.1; omega) (by have:=hb.2.2; omega)]
theorem rgor_x (s:MS) (cs:List Ch) (hg:0 ≤ g) (hl:s.gs.length ≤ 1000) (x:Gor):Z6j (s.r cs,g,x)=some ((s.gset g x).r cs):=by
 have key:=Y83 (f:=Zdn) s.gs.length (fun n=>(g,s.gs,(s.gs.length:Int),(n:Int),s.r cs,x,0,0,0,(0,0),(s.gs.set (toN g) x).take n)) (s.r cs,0,0,0,(0,0),s.gs.set (toN g) x) (by
   intro n hn
   have hz:getAt ((0:Int),((0:Int),((0:Int),false))) s.gs (toN (n:Int))=s.gs[n]:=getAtL _ hn
   have hs1:=Ygf s.gs (toN g) x hn
   unfold Zdn
   simp only [hz]
   rw [bif_t (decide_eq_true (by omega)),bif_t (Y6k hn),wrapI (by omega) (by omega)]
   by_cases e:(n:Int)=g
   ·have e2:n=toN g:=by unfold toN; omega
    rw [if_pos e2] at hs1
    rw [bif_t (by simpa using e),bif_t (Y5a.2 (by simp; omega)),show (s.gs.set (toN g) x).take n++x :: []=(s.gs.set (toN g) x).take (n+1) from hs1.symm]; rfl
   ·have e2:n ≠ toN g:=by unfold toN; omega
    rw [if_neg e2] at hs1
    rw [bif_f (by simpa using e),bif_t (Y5a.2 (by simp; omega)),show (s.gs.set (toN g) x).take n++s.gs[n] :: []=(s.gs.set (toN g) x).take (n+1) from hs1.symm]; rfl) (by
   unfold Zdn
   simp only
   rw [bif_f (decide_eq_false (by omega)),List.take_of_length_le (by simp)]) 0 (Nat.zero_le _)
 unfold Z6j
 simp only
 rw [show loop Zdn (g,s.gs,(s.gs.length:Int),0,s.r cs,x,0,0,0,(0,0),[])=_ from key]
 rfl
theorem Ybo (s:MS) (cs:List Ch) (k:Int) (hk:0 ≤ k) (hl:cs.length ≤ 1000) (x:Ch):Z69 (s.r cs,k,x)=some (s.r (cs.set (toN k) x)):=by
 have key:=Y83 (f:=Zdj) cs.length (fun n=>(k,cs,(cs.length:Int),(n:Int),s.r cs,x,0,0,0,(0,0),(cs.set (toN k) x).take n)) (s.r cs,0,0,0,(0,0),cs.set (toN k) x) (by
   intro n hn
   have hz:cs.getD ((n:Int)).toNat zeroC=cs[n]:=Y63 hn _
   have hs1:=Ygf cs (toN k) x hn
   unfold Zdj
   simp only [chz_eq,hz]
   rw [bif_t (decide_eq_true (by omega)),bif_t (Y6k hn),wrapI (by omega) (by omega)]
   by_cases e:(n:Int)=k
   ·have e2:n=toN k:=by unfold toN; omega
    rw [if_pos e2] at hs1
    rw [bif_t (by simpa using e),bif_t (Y5a.2 (by simp; omega)),show (cs.set (toN k) x).take n++x :: []=(cs.set (toN k) x).take (n+1) from hs1.symm]; rfl
   ·have e2:n ≠ toN k:=by unfold toN; omega
    rw [if_neg e2] at hs1
    rw [bif_f (by simpa using e),bif_t (Y5a.2 (by simp; omega)),show (cs.set (toN k) x).take n++cs[n] :: []=(cs.set (toN k) x).take (n+1) from hs1.symm]; rfl) (by
   unfold Zdj
   simp only
   rw [bif_f (decide_eq_false (by omega)),List.take_of_length_le (by simp)]) 0 (Nat.zero_le _)
 unfold Z69
 simp only
 rw [show loop Zdj (k,cs,(cs.length:Int),0,s.r cs,x,0,0,0,(0,0),[])=_ from key]
 rfl
theorem Yct (s:MS) (cs:List Ch) (k:Int) (hk:0 ≤ k) (hl:s.ls.length ≤ 1000) (x:Lk):Z6t (s.r cs,k,x)=some ((s.lset k x).r cs):=by
 have key:=Y83 (f:=Zdt) s.ls.length (fun n=>(k,s.ls,(s.ls.length:Int),(n:Int),s.r cs,x,0,0,0,(0,0),(s.ls.set (toN k) x).take n)) (s.r cs,0,0,0,(0,0),s.ls.set (toN k) x) (by
   intro n hn
   have hz:s.ls.getD ((n:Int)).toNat (false,[])=s.ls[n]:=Y63 hn _
   have hs1:=Ygf s.ls (toN k) x hn
   unfold Zdt
   simp only [lkz_eq,hz]
   rw [bif_t (decide_eq_true (by omega)),bif_t (Y6k hn),wrapI (by omega) (by omega)]
   by_cases e:(n:Int)=k
   ·have e2:n=toN k:=by unfold toN; omega
    rw [if_pos e2] at hs1
    rw [bif_t (by simpa using e),bif_t (Y5a.2 (by simp; omega)),show (s.ls.set (toN k) x).take n++x :: []=(s.ls.set (toN k) x).take (n+1) from hs1.symm]; rfl
   ·have e2:n ≠ toN k:=by unfold toN; omega
    rw [if_neg e2] at hs1
    rw [bif_f (by simpa using e),bif_t (Y5a.2 (by simp; omega)),show (s.ls.set (toN k) x).take n++s.ls[n] :: []=(s.ls.set (toN k) x).take (n+1) from hs1.symm]; rfl) (by
   unfold Zdt
   simp only
   rw [bif_f (decide_eq_false (by omega)),List.take_of_length_le (by simp)]) 0 (Nat.zero_le _)
 unfold Z6t
 simp only
 rw [show loop Zdt (k,s.ls,(s.ls.length:Int),0,s.r cs,x,0,0,0,(0,0),[])=_ from key]
 rfl
theorem Ycx (s:MS) (cs:List Ch) (k:Int) (hk:0 ≤ k) (hl:s.os.length ≤ 1000) (x:On):Z6x (s.r cs,k,x)=some ((s.oset k x).r cs):=by
 have key:=Y83 (f:=Zdv) s.os.length (fun n=>(k,s.os,(s.os.length:Int),(n:Int),s.r cs,x,0,0,0,(0,0),(s.os.set (toN k) x).take n)) (s.r cs,0,0,0,(0,0),s.os.set (toN k) x) (by
   intro n hn
   have hz:s.os.getD ((n:Int)).toNat zeroO=s.os[n]:=Y63 hn _
   have hs1:=Ygf s.os (toN k) x hn
   unfold Zdv
   simp only [ocz_eq,hz]
   rw [bif_t (decide_eq_true (by omega)),bif_t (Y6k hn),wrapI (by omega) (by omega)]
   by_cases e:(n:Int)=k
   ·have e2:n=toN k:=by unfold toN; omega
    rw [if_pos e2] at hs1
    rw [bif_t (by simpa using e),bif_t (Y5a.2 (by simp; omega)),show (s.os.set (toN k) x).take n++x :: []=(s.os.set (toN k) x).take (n+1) from hs1.symm]; rfl
   ·have e2:n ≠ toN k:=by unfold toN; omega
    rw [if_neg e2] at hs1
    rw [bif_f (by simpa using e),bif_t (Y5a.2 (by simp; omega)),show (s.os.set (toN k) x).take n++s.os[n] :: []=(s.os.set (toN k) x).take (n+1) from hs1.symm]; rfl) (by
   unfold Zdv
   simp only
   rw [bif_f (decide_eq_false (by omega)),List.take_of_length_le (by simp)]) 0 (Nat.zero_le _)
 unfold Z6x
 simp only
 rw [show loop Zdv (k,s.os,(s.os.length:Int),0,s.r cs,x,0,0,0,(0,0),[])=_ from key]
 rfl
theorem Ycs (s:MS) (cs:List Ch) (hl:cs.length ≤ 1000) (hc:∀ c ∈ cs,chOK c):Z6r (s.r cs,g)=some (s.r (cs.map fun c=>leaveC c g)):=by
 have key:=Y83 (f:=Zdr) cs.length (fun n=>(g,cs,(cs.length:Int),(n:Int),s.r cs,0,0,0,(0,0),(cs.take n).map fun c=>leaveC c g)) (s.r cs,0,0,0,(0,0),cs.map fun c=>leaveC c g) (by
   intro n hn
   have hz:cs.getD ((n:Int)).toNat zeroC=cs[n]:=Y63 hn _
   have hok:=hc _ (List.getElem_mem hn)
   have l1:=len1 hok
   have l2:=len2 hok
   unfold Zdr
   simp only [chz_eq,hz]
   rw [bif_t (decide_eq_true (by omega)),bif_t (Y6k hn),Ycr _ _ (by omega) (by omega),wrapI (by omega) (by omega)]
   simp only [Option.bind_some]
   rw [bif_t (Y5a.2 (by simp; omega)),show ((cs.take n).map fun c=>leaveC c g)++leaveC cs[n] g :: []=(cs.take (n+1)).map fun c=>leaveC c g by rw [← List.take_append_getElem hn,List.map_append]; rfl]; rfl) (by
   unfold Zdr
   simp only
   rw [bif_f (decide_eq_false (by omega)),List.take_length]) 0 (Nat.zero_le _)
 unfold Z6r
 simp only
 rw [show loop Zdr (g,cs,(cs.length:Int),0,s.r cs,0,0,0,(0,0),[])=_ from key]
 rfl
theorem rto_x (s:MS) (cs:List Ch) (pc:Int) (hg:0 ≤ g∧g < s.gs.length) (hl:s.gs.length ≤ 1000) (h1:0 ≤ (s.g g).1) (h2:(s.g g).1 < s.p.2.2.2.2.2.length) (hp:pc ≤ (blk s.p (s.g g).1).length):Z7l (s.r cs,g,pc)=some ((s.to g pc).r cs):=by
 have e1:inb (gAt s.gs g).1 s.p.2.2.2.2.2.length=true:=inbL.2 ⟨h1,h2⟩
 unfold Z7l
 simp only [gAt_eq,blk_eq]
 rw [bif_t (inbL.2 hg),bif_t e1]
 by_cases e:pc=(blk s.p (s.g g).1).length
 ·have hd:decide (pc ≥ ((blk s.p (gAt s.gs g).1).length:Int))=true:=decide_eq_true (by show pc ≥ ((blk s.p (s.g g).1).length:Int); omega)
  rw [bif_t hd,rgor_x s cs hg.1 hl]
  simp only [Option.bind_some]
  unfold MS.to gTo
  rw [if_pos e]; rfl
 ·have hd:decide (pc ≥ ((blk s.p (gAt s.gs g).1).length:Int))=false:=decide_eq_false (by show ¬ pc ≥ ((blk s.p (s.g g).1).length:Int); omega)
  rw [bif_f hd,rgor_x s cs hg.1 hl]
  simp only [Option.bind_some]
  unfold MS.to gTo
  rw [if_neg e]; rfl
theorem ron_x (s:MS) (cs:List Ch) (hg:0 ≤ g∧g < s.gs.length) (hl:s.gs.length ≤ 1000) (hok:gOK s.p (s.g g)) (hst:(s.g g).2.2.1 ≠ 2) (hb:(s.g g).2.1 ≤ 1000):Z6v (s.r cs,g)=some ((s.on g).r cs):=by
 have hne:(s.g g).2.1 ≠ (blk s.p (s.g g).1).length:=fun e=>hst (hok.2.2.2.2.2.2.1 e)
 have k1:=hok.2.2.1
 have k2:=hok.2.2.2.1
 unfold Z6v
 simp only [gAt_eq]
 have hw:IntKind.wrap .i64 ((gAt s.gs g).2.1+1)=(s.g g).2.1+1:=wrapI (by show -9223372036854775808 ≤ (s.g g).2.1+1; omega) (by show (s.g g).2.1+1 < _; omega)
 rw [bif_t (inbL.2 hg),hw,rto_x s cs _ hg hl hok.1 hok.2.1 (by omega)]
 rfl
theorem Ye7 (s:MS) (cs:List Ch) (hg:0 ≤ g∧g < s.gs.length) (hl:s.gs.length ≤ 1000):Z7n (s.r cs,g)=some ((s.wait g).r cs):=by
 unfold Z7n
 simp only [gAt_eq]
 rw [bif_t (inbL.2 hg),rgor_x s cs hg.1 hl]
 rfl
theorem Ycp (s:MS) (cs:List Ch) (hg:0 ≤ g∧g < s.gs.length) (hok:gOK s.p (s.g g)) (hst:(s.g g).2.2.1 ≠ 2):Z6n (s.w cs,g)=some (s.instr g):=by
 have hne:(s.g g).2.1 ≠ (blk s.p (s.g g).1).length:=fun e=>hst (hok.2.2.2.2.2.2.1 e)
 have k3:=hok.2.2.1
 have k4:=hok.2.2.2.1
 have e1:inb (gAt s.gs g).1 s.p.2.2.2.2.2.length=true:=inbL.2 ⟨hok.1,hok.2.1⟩
 have e2:inb (gAt s.gs g).2.1 (blk s.p (gAt s.gs g).1).length=true:=inbL.2 ⟨k3,by show (s.g g).2.1 < ((blk s.p (s.g g).1).length:Int); omega⟩
 unfold Z6n
 simp only [gAt_eq,blk_eq,inz_eq]
 rw [bif_t (inbL.2 hg),bif_t e1,bif_t e2]
 rfl
theorem Ydj (s:MS) (cs:List Ch) (x:W) (h:DoneOK s x):Z79 (s.w cs,x.1,x.2.1)=some (s.sends x):=by
 unfold Z79
 simp only
 rw [Ycp s cs h.g h.ok h.st]
 simp only [Option.bind_some,sel_eq,Y2j]
 unfold MS.sends sendsI
 by_cases c4:(s.instr x.1).1=4
 ·obtain ⟨q1,q2,q3⟩:=h.sel c4
  rw [bif_t (by simpa using c4),bif_t (inbL.2 q1),bif_t (inbL.2 ⟨q2,q3⟩),c4]
  simp
 ·rw [bif_f (by simpa using c4),decide_eq_false c4]
  simp
  by_cases c1:(s.instr x.1).1=1
  ·rw [c1]; rfl
  ·rw [beq_eq_false_iff_ne.2 c1,decide_eq_false c1]
theorem Ybr (s:MS) (cs:List Ch) (hr:RelCs cs s.cs) (x:W) (k no:Int) (b:Bool) (h:DoneOK s x) (hb:s.Bd 1) (hgl:s.gs.length ≤ 1000) (hc:b=true→no=0∧s.sends x=false) :
  Z6d (s.r cs,k,x,no,b)=some ((s.done x k no b).r (cs.map fun c=>leaveC c x.1)):=by
 have hcs:∀ c ∈ cs,chOK c:=hr.ok h.ch
 have hcl:cs.length ≤ 1000:=by rw [hr.1]; exact h.cl
 -- behind the telling
 have fin:∀ (s1:MS),s1.p=s.p→s1.gs.length=s.gs.length→gOK s1.p (s1.g x.1)→(s1.g x.1).2.2.1 ≠ 2→(s1.g x.1).2.1 ≤ 1000 →
   ((Z6v (s1.r cs,x.1)).bind fun r=>(Z6r (r,x.1)).bind fun r=>some r)=some (((s1.on x.1).leave x.1).r (cs.map fun c=>leaveC c x.1)):=by
  intro s1 e1 e2 e3 e4 e5
  rw [ron_x s1 cs (by rw [e2]; exact h.g) (by rw [e2]; exact hgl) e3 e4 e5]
  simp only [Option.bind_some]
  rw [Ycs (s1.on x.1) cs hcl hcs]
  rfl
 have fin2:∀ (e:Ev) (c:Bool),(bif inb x.1 (s.tell e).gs.length then (Z6j ((s.tell e).r cs,x.1,(gAt (s.tell e).gs x.1).1,(gAt (s.tell e).gs x.1).2.1,(gAt (s.tell e).gs x.1).2.2.1,c)).bind fun r=>(Z6v (r,x.1)).bind fun r=>(Z6r (r,x.1)).bind fun r=>some r else none) =
   some (((((s.tell e).gset x.1 (gCl (s.g x.1) c)).on x.1).leave x.1).r (cs.map fun c=>leaveC c x.1)):=by
  intro e c
  have hgi:inb x.1 (s.tell e).gs.length=true:=inbL.2 h.g
  have hg1:((s.tell e).gset x.1 (gCl (s.g x.1) c)).g x.1=gCl (s.g x.1) c:=Y60 h.g _
  rw [bif_t hgi,rgor_x (s.tell e) cs h.g.1 hgl]
  simp only [Option.bind_some]
  exact fin ((s.tell e).gset x.1 (gCl (s.g x.1) c)) rfl (by show (s.gs.set _ _).length=_; rw [List.length_set]) (by rw [hg1]; exact h.ok) (by rw [hg1]; exact h.st) (by rw [hg1]; exact h.pc)
 unfold Z6d
 simp only [gAt_eq]
 rw [Ydj s cs x h]
 simp only [Option.bind_some]
 unfold MS.done MS.done1
 cases b with
 | true =>
  obtain ⟨h0,h1⟩:=hc rfl
  subst h0
  rw [h1,bif_f (by rfl),bif_t (by rfl),Ydu s cs _ hb]
  simp only [Option.bind_some]
  rw [fin2,if_neg (by simp),if_pos trivial]
 | false =>
  by_cases c1:s.sends x=true
  ·rw [c1,bif_t (by rfl),bif_f (by rfl),Ydu s cs _ hb,if_pos rfl]
   simp only [Option.bind_some]
   exact fin (s.tell (x.1,3,k,no,x.2.2)) rfl rfl h.ok h.st h.pc
  ·have c1:s.sends x=false:=Bool.eq_false_iff.2 c1
   rw [c1,bif_f (by rfl),bif_f (by rfl),Ydu s cs _ hb]
   simp only [Option.bind_some]
   rw [fin2,if_neg (by simp),if_neg (by simp)]
theorem Ydi {c:Ch} {a:AC} (h:RelC c a) (ho:a.Ok) {w:W} (hw:isW w) (hs:a.sent < 1048576) (hn:newW a.sends w):∃ c',Z59 (c,w)=some (c',(a.send w).2,0)∧RelC c' (a.send w).1:=by
 obtain ⟨c1,e1,e2⟩:=h.send ho w hs hn
 obtain ⟨x,f1,f2⟩:=Ydh c w (h.ok.2 ho) hw
 rw [e1] at f1 f2
 exact ⟨x,f1,e2.to (f2 rfl)⟩
theorem Ydf {c:Ch} {a:AC} (h:RelC c a) (ho:a.Ok) {w:W} (hw:isW w) (hs:a.sent < 1048576) (hn:newW a.recvs w):∃ c',Z55 (c,w)=some (c',(a.recv w).2,0)∧RelC c' (a.recv w).1:=by
 obtain ⟨c1,e1,e2⟩:=h.recv ho w hs hn
 obtain ⟨x,f1,f2⟩:=Yde c w (h.ok.2 ho) hw
 rw [e1] at f1 f2
 exact ⟨x,f1,e2.to (f2 rfl)⟩
theorem Ydd {c:Ch} {a:AC} (h:RelC c a) (ho:a.Ok) {w:W} (hw:isW w):∃ y,Z55 (c,w)=some y:=by
 obtain ⟨x,f1,_⟩:=Yde c w (h.ok.2 ho) hw
 exact ⟨_,f1⟩
theorem Yeu {s:MS} {x:W} {k:Int} {b:Bool} (h:fitI s.p (s.instr x.1) x.2.1 b k):s.sends x=b:=by
 unfold MS.sends sendsI
 rcases h with ⟨q1,q2,q3,q4⟩ | ⟨q1,q2,q3⟩
 ·rw [q4,q1]; cases b <;> rfl
 ·cases b with
  | true=>rw [show (s.instr x.1).1=1 from q1]; rfl
  | false=>rw [show (s.instr x.1).1=2 from q1]; rfl
theorem Yd8 (s:MS) (cs:List Ch) (hr:RelCs cs s.cs) (x:W) (k:Int) (b:Bool) (h:OfferOK s x k b) (hd:DoneOK s x) (hsd:s.sends x=b) (hb:s.Bd 2) (hgl:s.gs.length ≤ 1000)
  (h1:(s.offer x k b).1.1 ≠ 0→(s.offer x k b).1.1 ≠ 3→(s.offer x k b).1.2.2.1.1 ≠ -1→DoneOK (s.offer x k b).2 (s.offer x k b).1.2.2.1)
  (h2:(s.offer x k b).1.1 ≠ 0→(s.offer x k b).1.1 ≠ 3→DoneOK (if (s.offer x k b).1.2.2.1.1=-1 then (s.offer x k b).2 else (s.offer x k b).2.done (s.offer x k b).1.2.2.1 k (s.offer x k b).1.2.2.2 false) x)
  (hlen:∀ (y:W) n,0 ≤ y.1∧y.1 < s.gs.length→((s.offer x k b).2.done y k n false).gs.length=s.gs.length) :
  ∃ cs',RelCs cs' (s.pass x k b).cs∧Z71 (s.r cs,k,x)=some ((s.pass x k b).r cs'):=by
 have hkn:k.toNat < s.cs.length:=by have:=h.kr; omega
 have hrel:=hr.2 k.toNat hkn
 have hcl:cs.length ≤ 1000:=by rw [hr.1]; exact hd.cl
 have hki:inb k cs.length=true:=inbL.2 (by rw [hr.1]; exact h.kr)
 have hout:=Ya5 (s.ch k) b x
 have hoe:(s.offer x k b).1=((s.ch k).off b x).2:=rfl
 -- behind the send or the receive
 have fin:∀ (c':Ch),RelC c' ((s.ch k).off b x).1→∃ cs',RelCs cs' (s.pass x k b).cs∧((Z69 (s.r cs,k,c')).bind fun r28 =>
   bif ((s.ch k).off b x).2.1 == 0 then (Z7n (r28,x.1)).bind fun r=>some r
   else bif ((s.ch k).off b x).2.1 == 3 then some ((r28.1.1,r28.1.2.1,r28.1.2.2.1,r28.1.2.2.2.1,r28.1.2.2.2.2.1,r28.1.2.2.2.2.2.1,3),r28.2)
   else bif decide (((s.ch k).off b x).2.2.2.1.1 ≥ 0) then (Z6d (r28,k,((s.ch k).off b x).2.2.2.1,((s.ch k).off b x).2.2.2.2,false)).bind fun r29=>(Z6d (r29,k,x,((s.ch k).off b x).2.2.1,((s.ch k).off b x).2.1 == 2)).bind fun r=>some r
   else (Z6d (r28,k,x,((s.ch k).off b x).2.2.1,((s.ch k).off b x).2.1 == 2)).bind fun r=>some r)=some ((s.pass x k b).r cs'):=by
  intro c' hc'
  have r1:RelCs (cs.set (toN k) c') (s.offer x k b).2.cs:=hr.set hc'
  rw [show Z69 (s.r cs,k,c')=some ((s.offer x k b).2.r (cs.set (toN k) c')) from Ybo s cs k h.kr.1 hcl c']
  simp only [Option.bind_some]
  unfold MS.pass
  rw [hoe] at h1 h2 ⊢
  have hb1:(s.offer x k b).2.Bd 2:=hb
  have hkind:=hout.kind
  have hd2:((s.ch k).off b x).2.1=2→((s.ch k).off b x).2.2.1=0∧b=false:=by
   intro e
   rcases hout.kind with q | q | q | q
   ·omega
   ·omega
   ·refine ⟨?_,q.2.1⟩
    have hb0:=q.2.1
    subst hb0
    have e:(AC.recv (s.ch k) x).2.1=2:=e
    show (AC.recv (s.ch k) x).2.2.1=0
    unfold AC.recv at e ⊢
    split
    ·rename_i v hv; rw [hv] at e; cases e
    ·rename_i hv
     rw [hv] at e
     simp only at e
     split
     ·rfl
     ·rename_i q1
      rw [if_neg q1] at e
      split
      ·rename_i q2; rw [if_pos q2] at e; cases e
      ·split <;> rfl
   ·omega
  generalize ho:((s.ch k).off b x).2=o at *
  by_cases c0:o.1=0
  ·rw [bif_t (by simpa using c0),if_pos c0,Ye7 (s.offer x k b).2 _ hd.g hgl]
   exact ⟨_,r1,rfl⟩
  rw [bif_f (by simpa using c0),if_neg c0]
  by_cases c3:o.1=3
  ·rw [bif_t (by simpa using c3),if_pos c3]
   exact ⟨_,r1,rfl⟩
  rw [bif_f (by simpa using c3),if_neg c3]
  have h1:=h1 c0 c3
  have h2:=h2 c0 c3
  have hbq:(o.1 == 2)=decide (o.1=2):=by
   by_cases e:o.1=2
   ·rw [e]; rfl
   ·rw [beq_eq_false_iff_ne.2 e,decide_eq_false e]
  by_cases cw:o.2.2.1.1=-1
  ·rw [if_pos cw] at h2 ⊢
   rw [bif_f (decide_eq_false (by omega)),hbq,Ybr (s.offer x k b).2 _ r1 x k _ _ h2 (hb1.le (by omega)) hgl (fun e=>by
    obtain ⟨z1,z2⟩:=hd2 (of_decide_eq_true e)
    exact ⟨z1,by rw [← z2]; exact hsd⟩)]
   refine ⟨_,?_,rfl⟩
   rw [Y3t]; exact Y7n r1 _
  ·have hd1:=h1 cw
   rw [if_neg cw] at h2 ⊢
   have hv0:0 ≤ o.2.2.1.1:=hd1.g.1
   have hvg:0 ≤ o.2.2.1.1∧o.2.2.1.1 < s.gs.length:=hd1.g
   have r2:RelCs ((cs.set (toN k) c').map fun c=>leaveC c o.2.2.1.1) ((s.offer x k b).2.done o.2.2.1 k o.2.2.2 false).cs:=by rw [Y3t]; exact Y7n r1 _
   have hne:x.1 ≠ o.2.2.1.1:=by
    rcases hkind with q | ⟨_,q⟩ | q | q
    ·exact absurd q.1 c0
    ·rcases q with q | q
     ·exact absurd (by rw [q]; rfl) cw
     ·exact fun e=>q.2 e.symm
    ·exact absurd (by rw [q.2.2.1]; rfl) cw
    ·exact absurd q.1 c3
   have hsd2:((s.offer x k b).2.done o.2.2.1 k o.2.2.2 false).sends x=b:=by
    refine Eq.trans ?_ hsd
    unfold MS.sends MS.instr
    rw [done_g (s.offer x k b).2 o.2.2.1 hvg _ _ _ hd.g.1 hne,done_p]
    rfl
   rw [bif_t (decide_eq_true hv0),Ybr (s.offer x k b).2 _ r1 o.2.2.1 k _ false hd1 (hb1.le (by omega)) hgl (fun e=>by cases e)]
   simp only [Option.bind_some]
   rw [hbq,Ybr ((s.offer x k b).2.done o.2.2.1 k o.2.2.2 false) _ r2 x k _ _ h2 (Y3s hb1 _ _ _ _) (by rw [hlen _ _ hvg]; exact hgl) (fun e=>by
    obtain ⟨z1,z2⟩:=hd2 (of_decide_eq_true e)
    exact ⟨z1,by rw [hsd2,z2]⟩)]
   refine ⟨_,?_,rfl⟩
   rw [Y3t]; exact Y7n r2 _
 unfold Z71
 simp only [chz_eq]
 rw [bif_t hki]
 cases b with
 | true =>
  obtain ⟨y,hy⟩:=Ydd hrel h.ok h.w
  obtain ⟨c',e1,e2⟩:=Ydi hrel h.ok h.w h.sent h.nw
  rw [hy]
  simp only [Option.bind_some]
  rw [Ydj s cs x hd,hsd]
  simp only [Option.bind_some]
  rw [bif_t (by rfl),bif_t hki,e1]
  exact fin c' e2
 | false =>
  obtain ⟨c',e1,e2⟩:=Ydf hrel h.ok h.w h.sent h.nw
  rw [e1]
  simp only [Option.bind_some]
  rw [Ydj s cs x hd,hsd]
  simp only [Option.bind_some]
  rw [bif_f (by rfl)]
  exact fin c' e2
end
end Go.Proofs.YthdlpkdojipfhaaGreat.VX.VxM_M
set_option linter.unusedVariables false
set_option linter.unusedSimpArgs false
namespace Go.Proofs.YthdlpkdojipfhaaGreat.VX.VxM_M
open Go.Proofs
section
variable {s:MS} {g:Int}
theorem Yd9 (a b c:Int):Z73 (a,b,c)=some (a,b,c,0,-1):=rfl
theorem Yd7 {cs:List Ch} (hr:RelCs cs s.cs) (h:GI s (-1)) {x:W} {k:Int} {b:Bool} (hk:0 ≤ k∧k < s.cs.length) (hg:0 ≤ x.1∧x.1 < s.gs.length) (hst:(s.g x.1).2.2.1=0) (hw:isW x) (hs:(s.ch k).sent < 1048576) (hf:fitI s.p (s.instr x.1) x.2.1 b k) (hb:s.Bd 2) :
  ∃ cs',RelCs cs' (s.pass x k b).cs∧Z71 (s.r cs,k,x)=some ((s.pass x k b).r cs'):=by
 have h1:=h.pass hk hg hst hw hs hf
 have hfw:s.fitW x.1 x k b:=⟨⟨hg.1,hg.2,.inr ⟨rfl,hst⟩⟩,hf⟩
 have hgl:=h.gl
 exact Yd8 s cs hr x k b h1.2.1 ((h.weak x.1).done_ok hfw) (Yeu hf) hb (by omega) h1.2.2.1 h1.2.2.2 (fun y n hy=>Y3v (s.offer x k b).2 y hy k n false)
theorem Ycw {cs:List Ch} (hr:RelCs cs s.cs) (h:GI s (-1)) (r:Rdy s g) (t:Int) (ht:0 ≤ t) (hs:∀ a ∈ s.cs,a.sent < 1048576) (hop:(s.instr g).1=4) (A:Int) (hA:A=(s.instr g).2.1)
  (hn:∀ k,0 ≤ k→k < ((selAt s.p A).1.length:Int)→(s.ch (caseAt s.p A k).2).ready (caseAt s.p A k).1 g=false) :
  ∃ cs',RelCs cs' (s.offers g t (selAt s.p A).1).cs∧loop Zdz (g,t,(selAt s.p A).1,((selAt s.p A).1.length:Int),0,s.r cs,0,0,0,(0,0)) =
   some (g,(s.offers g t (selAt s.p A).1).r cs',0,0,0,(0,0)):=by
 have hsb:=Yem h r hop
 rw [← hA] at hsb
 have hl4:=Yep h.rp A
 obtain ⟨l,hl⟩:∃ l,l=(selAt s.p A).1:=⟨_,rfl⟩
 rw [← hl] at hn hl4 ⊢
 have hcase:∀ n:Nat,l.getD n (false,0)=caseAt s.p A n:=fun n=>by unfold caseAt; rw [← hl]; rfl
 have none0:=h.none (g:=g) (by have:=r.st; omega)
 have hcap:=Y2h h.rp
 have hscl:=h.cl
 let P:Nat→MS × List Ch→Prop:=fun n q=>RelCs q.2 q.1.cs∧GI q.1 g∧q.1.gs=s.gs∧q.1.p=s.p∧(∀ a ∈ q.1.cs,a.sent < 1048576)∧q.1.cs.length=s.cs.length ∧
  (∀ (k:Int) b,0 ≤ k→k < s.cs.length→(q.1.ch k).ready b g=(s.ch k).ready b g)∧(∀ (k:Int) b,0 ≤ k→k < s.cs.length→∀ y ∈ (q.1.ch k).mine b,y.1=g→y.2.1 < n)
 -- one offer
 have one:∀ n q,n < l.length→P n q→∃ cs',Zdz (g,t,l,(l.length:Int),(n:Int),q.1.r q.2,0,0,0,(0,0))=some (.inl (g,t,l,(l.length:Int),((n+1:Nat):Int),(q.1.offer (g,(n:Int),t) (l.getD n (false,0)).2 (l.getD n (false,0)).1).2.r cs',0,0,0,(0,0))) ∧
   P (n+1) ((q.1.offer (g,(n:Int),t) (l.getD n (false,0)).2 (l.getD n (false,0)).1).2,cs'):=by
  rintro n ⟨q,qc⟩ hnl ⟨p1,p2,p3,p4,p5,p6,p7,p8⟩
  simp only at p1 p2 p3 p4 p5 p6 p7 p8
  have hcn:=hcase n
  have hk:=Y2i h.rp hsb (k:=(n:Int)) (by rw [← hl]; omega)
  rw [← h.cl] at hk
  have hget:getAt (false,(0:Int)) l (toN (n:Int))=caseAt s.p A n:=(caz_eq l n).trans hcn
  rw [hcn]
  generalize hcs:caseAt s.p A n=cse at *
  have hk':0 ≤ cse.2∧cse.2 < q.cs.length:=by rw [p6]; exact hk
  have hkn:cse.2.toNat < q.cs.length:=by omega
  have hw:isW (g,(n:Int),t):=⟨r.hg.1,by show (0:Int) ≤ (n:Int); omega,ht⟩
  have hready:(q.ch cse.2).ready cse.1 g=false:=by
   rw [p7 _ _ hk.1 hk.2]
   have:=hn n (by omega) (by omega)
   rw [hcs] at this; exact this
  have hnw:newW ((q.ch cse.2).mine cse.1) (g,(n:Int),t):=by
   refine ⟨fun hm=>?_,by have:=p2.mine_len hk' cse.1; omega⟩
   obtain ⟨y,hy,e⟩:=List.mem_map.1 hm
   have e1:(keyW y).1=g:=by rw [e]; rfl
   have e2:(keyW y).2=(n:Int):=by rw [e]; rfl
   have:=p8 cse.2 cse.1 hk.1 hk.2 y hy e1
   have e2:y.2.1=(n:Int):=e2
   omega
  have hsn:=p5 _ (Y8z hkn zA)
  have hcok:=p2.chok hk'
  obtain ⟨o1,o2,o3,o4⟩:=Ya6 hcok hready hw hnw hsn
  have hrel:=p1.2 _ hkn
  have hqcl:qc.length ≤ 1000:=by rw [p1.1,p6]; omega
  have hki:inb cse.2 qc.length=true:=inbL.2 (by rw [p1.1]; exact hk')
  have hone:∃ c',RelC c' ((q.ch cse.2).off cse.1 (g,(n:Int),t)).1∧Zdz (g,t,l,(l.length:Int),(n:Int),q.r qc,0,0,0,(0,0))=some (.inl (g,t,l,(l.length:Int),((n+1:Nat):Int),(q.offer (g,(n:Int),t) cse.2 cse.1).2.r (qc.set (toN cse.2) c'),0,0,0,(0,0))):=by
   obtain ⟨y,hy⟩:=Ydd hrel hcok hw
   unfold Zdz
   simp only
   rw [bif_t (decide_eq_true (by omega)),bif_t (Y6k hnl)]
   simp only [hget,chz_eq]
   rw [bif_t hki,wrapI (n:=(n:Int)+1) (by omega) (by omega)]
   cases hcb:cse.1 with
   | true =>
    rw [hcb] at hnw
    obtain ⟨c',e1,e2⟩:=Ydi hrel hcok hw hsn hnw
    rw [hy]
    simp only [Option.bind_some]
    rw [bif_t (by rfl),bif_t hki,e1]
    simp only [Option.bind_some]
    rw [show Z69 (q.r qc,cse.2,c')=some ((q.offer (g,(n:Int),t) cse.2 true).2.r (qc.set (toN cse.2) c')) from Ybo q qc cse.2 hk'.1 hqcl c']
    exact ⟨c',e2,rfl⟩
   | false =>
    rw [hcb] at hnw
    obtain ⟨c',e1,e2⟩:=Ydf hrel hcok hw hsn hnw
    rw [e1]
    simp only [Option.bind_some]
    rw [bif_f (by rfl),show Z69 (q.r qc,cse.2,c')=some ((q.offer (g,(n:Int),t) cse.2 false).2.r (qc.set (toN cse.2) c')) from Ybo q qc cse.2 hk'.1 hqcl c']
    exact ⟨c',e2,rfl⟩
  obtain ⟨c',e1,e2⟩:=hone
  have hgq:q.g g=s.g g:=by unfold MS.g; rw [p3]
  have hfit:q.fitW g (g,(n:Int),t) cse.2 cse.1:=by
   refine ⟨⟨r.hg.1,by rw [p3]; exact r.hg.2,.inr ⟨rfl,by rw [hgq]; exact r.st⟩⟩,.inl ?_⟩
   unfold MS.instr
   rw [hgq,p4]
   refine ⟨hop,by show (0:Int) ≤ (n:Int); omega,?_,?_⟩
   ·show (n:Int) < ((selAt s.p (s.instr g).2.1).1.length:Int)
    rw [← hA,← hl]; omega
   ·show caseAt s.p (s.instr g).2.1 n=_
    rw [← hA,hcs]
  have hch:∀ k:Int,0 ≤ k→k < s.cs.length→(q.offer (g,(n:Int),t) cse.2 cse.1).2.ch k=if k=cse.2 then ((q.ch cse.2).off cse.1 (g,(n:Int),t)).1 else q.ch k:=by
   intro k h0 h1
   show (q.cs.set (toN cse.2) _).getD k.toNat zA=_
   rw [show toN cse.2=cse.2.toNat from rfl,Y64 hkn]
   by_cases e:k=cse.2
   ·rw [if_pos e,if_pos (by rw [e])]
   ·rw [if_neg e,if_neg (by omega)]; rfl
  refine ⟨qc.set (toN cse.2) c',e2,p1.set e1,p2.offer hk' hfit o1,p3,p4,fun a ha=>?_,by show (q.cs.set _ _).length=_; rw [List.length_set]; exact p6,fun k b h0 h1=>?_,fun k b h0 h1 y hy e=>?_⟩
  ·rcases List.mem_or_eq_of_mem_set ha with z | z
   ·exact p5 a z
   ·rw [z,o2]; exact hsn
  ·show ((q.offer (g,(n:Int),t) cse.2 cse.1).2.ch k).ready b g=_
   rw [hch k h0 h1]
   split
   ·rename_i e
    rw [show ((q.ch cse.2).off cse.1 (g,(n:Int),t)).1.ready b g=(q.ch cse.2).ready b g from o3 b,e]; exact p7 _ _ hk.1 hk.2
   ·exact p7 k b h0 h1
  ·have hy:y ∈ ((q.offer (g,(n:Int),t) cse.2 cse.1).2.ch k).mine b:=hy
   rw [hch k h0 h1] at hy
   split at hy
   ·rename_i e3
    have ho:=Ya5 (q.ch cse.2) cse.1 (g,(n:Int),t)
    by_cases eb:b=cse.1
    ·subst eb
     rcases ho.mine y hy with z | ⟨z,_⟩
     ·have:=p8 cse.2 cse.1 hk.1 hk.2 y z e; omega
     ·rw [z]; show (n:Int) < ((n+1:Nat):Int); omega
    ·have eb:b=!cse.1:=by cases b <;> cases hz:cse.1 <;> simp_all
     rw [eb,← Ygh] at hy
     have:=ho.theirs y hy
     rw [Ygh] at this
     have:=p8 cse.2 (!cse.1) hk.1 hk.2 y this e; omega
   ·have:=p8 k b h0 h1 y hy e; omega
 let fo:=fun (n:Nat) (q:MS × List Ch)=>Zdz (g,t,l,(l.length:Int),(n:Int),q.1.r q.2,0,0,0,(0,0))
 let nx:Nat→MS × List Ch→MS × List Ch:=fun n q=>((q.1.offer (g,(n:Int),t) (l.getD n (false,0)).2 (l.getD n (false,0)).1).2,match fo n q with | some (.inl r)=>r.2.2.2.2.2.1.1.2.2.1 | _=>[])
 have key:=Y8a (f:=Zdz) l.length (fun n q=>(g,t,l,(l.length:Int),(n:Int),q.1.r q.2,0,0,0,(0,0))) nx P (fun q=>(g,q.1.r q.2,0,0,0,(0,0))) (by
   rintro n q hnl hp
   obtain ⟨cs',e1,e2⟩:=one n q hnl hp
   have hnx:nx n q=((q.1.offer (g,(n:Int),t) (l.getD n (false,0)).2 (l.getD n (false,0)).1).2,cs'):=by
    show ((q.1.offer (g,(n:Int),t) (l.getD n (false,0)).2 (l.getD n (false,0)).1).2,match fo n q with | some (.inl r)=>r.2.2.2.2.2.1.1.2.2.1 | _=>[])=_
    have:fo n q=_:=e1
    rw [this]
   rw [hnx]
   exact ⟨e1,e2⟩) (by
   rintro q -
   unfold Zdz
   simp only
   rw [bif_f (decide_eq_false (by omega))]) (s,cs) ⟨hr,h.weak g,rfl,rfl,hs,rfl,fun _ _ _ _=>rfl,fun k b h0 h1 y hy e=>absurd e (none0.1 k ⟨h0,h1⟩ b y hy)⟩
 have hpi:(upto nx 0 l.length (s,cs)).1=s.offers g t l:=Ygw (fun q:MS × List Ch=>q.1) nx (fun n s=>(s.offer (g,(n:Int),t) (l.getD n (false,0)).2 (l.getD n (false,0)).1).2) (fun _ _=>rfl) l.length 0 (s,cs)
 obtain ⟨k1,k2,k3,k4,_⟩:=key
 rw [hpi] at k1 k2
 exact ⟨_,k2,k1⟩
theorem rsel_x {cs:List Ch} (hr:RelCs cs s.cs) (h:GI s (-1)) (r:Rdy s g) (hb:s.Bd 4) (hs:∀ a ∈ s.cs,a.sent < 1048576) (k:Int) (hop:(s.instr g).1=4)
  (hk:k ≠ -1→0 ≤ k∧k < ((selAt s.p (s.instr g).2.1).1.length:Int))
  (hn:k=-1→∀ k,0 ≤ k→k < ((selAt s.p (s.instr g).2.1).1.length:Int)→(s.ch (caseAt s.p (s.instr g).2.1 k).2).ready (caseAt s.p (s.instr g).2.1 k).1 g=false) :
  ∃ cs',RelCs cs' (s.selO g k (s.instr g).2.1).cs∧Z77 (s.r cs,g,k,s.instr g)=some ((s.selO g k (s.instr g).2.1).r cs'):=by
 have hsb:=Yem h r hop
 have hpc:=r.pc h
 have hgl:=h.gl
 have hok:=h.gok r.hg
 have hof:=fun (q:k=-1)=>Ycw (cs:=cs) (s:=s.tell (g,8,(s.instr g).2.1,0,-1)) hr (h.tell _) ⟨r.hg,r.st⟩ s.ev hb.2.1 hs hop (s.instr g).2.1 rfl (hn q)
 have hoo:=fun (q:k=-1)=>Ya8 (cs:=cs) (s:=s.tell (g,8,(s.instr g).2.1,0,-1)) hr (h.tell _) ⟨r.hg,r.st⟩ s.ev hb.2.1 hs hop (s.instr g).2.1 rfl (hn q) (g,k) rfl
 have hb1:inb (s.instr g).2.1 s.p.2.2.2.2.1.length=true:=inbL.2 hsb
 unfold MS.selO Z77
 simp only [Yd9,Option.bind_some]
 rw [Ydu s cs (g,8,(s.instr g).2.1,0,-1) hb]
 simp only [Option.bind_some,sel_eq,Y2j]
 rw [bif_t hb1]
 by_cases ck:k=-1
 ·rw [if_neg (fun q=>q ck),bif_f (decide_eq_false (by omega))]
  obtain ⟨cs',f3,f4⟩:=hof ck
  obtain ⟨f1,f2,_⟩:=hoo ck
  by_cases cd:(selAt s.p (s.instr g).2.1).2=true
  ·rw [if_pos cd,bif_t cd,Ydu (s.tell (g,8,(s.instr g).2.1,0,-1)) cs (g,9,(s.instr g).2.1,0,s.ev) (hb.tell _)]
   simp only [Option.bind_some]
   rw [ron_x (g:=g) ((s.tell (g,8,(s.instr g).2.1,0,-1)).tell (g,9,(s.instr g).2.1,0,s.ev)) cs r.hg (by show s.gs.length ≤ 1000; omega) hok (by show (s.g g).2.2.1 ≠ 2; have:=r.st; omega) (by have:=hpc.2.1; have:=hpc.2.2; show (s.g g).2.1 ≤ 1000; omega)]
   exact ⟨cs,hr,rfl⟩
  ·rw [if_neg cd,bif_f (by simpa using cd)]
   have f4:loop Zdz (g,s.ev,(selAt s.p (s.instr g).2.1).1,((selAt s.p (s.instr g).2.1).1.length:Int),0,(s.tell (g,8,(s.instr g).2.1,0,-1)).r cs,0,0,0,(0,0))=_:=f4
   rw [f4]
   simp only [Option.bind_some]
   have f2:((s.tell (g,8,(s.instr g).2.1,0,-1)).offers g s.ev (selAt s.p (s.instr g).2.1).1).gs=s.gs:=f2
   rw [Ye7 (g:=g) ((s.tell (g,8,(s.instr g).2.1,0,-1)).offers g s.ev (selAt s.p (s.instr g).2.1).1) cs' (by rw [f2]; exact r.hg) (by rw [f2]; omega)]
   exact ⟨cs',f3,rfl⟩
 ·rw [if_pos ck,bif_t (decide_eq_true (by have:=hk ck; omega))]
  have hk:=hk ck
  have hcz:=Y2i h.rp hsb hk
  rw [← h.cl] at hcz
  have hb2:inb k (selAt s.p (s.instr g).2.1).1.length=true:=inbL.2 hk
  rw [bif_t hb2]
  obtain ⟨cs',r1,e1⟩:=Yd7 (s:=s.tell (g,8,(s.instr g).2.1,0,-1)) (x:=(g,k,s.ev)) (k:=(caseAt s.p (s.instr g).2.1 k).2) (b:=(caseAt s.p (s.instr g).2.1 k).1) hr (h.tell _) hcz r.hg r.st ⟨r.hg.1,hk.1,hb.2.1⟩ (hs _ (Y8z (by omega) zA)) (.inl ⟨hop,hk.1,hk.2,rfl⟩) ((hb.tell _).le (by omega))
  refine ⟨cs',r1,?_⟩
  rw [e1]
  rfl
theorem Ydk {cs:List Ch} (hr:RelCs cs s.cs) (h:GI s (-1)) (i:In) (l:List W) (hl:l.length ≤ 64) (hb:s.Bd 80) (hw:∀ x ∈ l,s.fitW (-1) x i.2.1 false) :
  ∃ cs',RelCs cs' (s.shutL i.2.1 l).cs∧loop Ze1 (l,l,(l.length:Int),0,s.r cs,i,0,0,0,(0,0))=some ((s.shutL i.2.1 l).r cs',0,0,0,(0,0)):=by
 let S:=(MS × List Int) × List Ch
 let P:Nat→S→Prop:=fun n q=>RelCs q.2 q.1.1.cs∧GI q.1.1 (-1)∧q.1.1.Bd (80 - n)∧(∀ y,y ∈ q.1.2 ↔ ∃ w ∈ l.take n,w.1=y) ∧
  (∀ j,n ≤ j→j < l.length→(l.getD j zeroW).1 ∉ q.1.2→q.1.1.fitW (-1) (l.getD j zeroW) i.2.1 false)
 let nx:Nat→S→S:=fun n q=>(MS.shutS i.2.1 l n q.1,if (l.getD n zeroW).1 ∈ q.1.2 then q.2 else q.2.map fun c=>leaveC c (l.getD n zeroW).1)
 have key:=Y8a (f:=Ze1) l.length (fun n (q:S)=>(l,l,(l.length:Int),(n:Int),q.1.1.r q.2,i,0,0,0,(0,0))) nx P (fun q=>(q.1.1.r q.2,0,0,0,(0,0))) (by
   rintro n ⟨⟨q,seen⟩,qc⟩ hn ⟨p1,p2,p3,p4,p5⟩
   simp only at p1 p2 p3 p4 p5
   have hx:=p5 n (Nat.le_refl _) hn
   have hge:getAt ((0:Int),((0:Int),(0:Int))) l (toN (n:Int))=l.getD n zeroW:=by rw [Y61]; rfl
   have hcut:cut l (toN 0) (toN (n:Int) - toN 0)=l.take n:=by unfold cut toN; simp
   have hlt:(l.take n).length=n:=by rw [List.length_take]; omega
   have htk:l.take (n+1)=l.take n++[l.getD n zeroW]:=by rw [← List.take_append_getElem hn,Y63 hn]
   have hseen:∀ y,y ∈ (l.getD n zeroW).1 :: seen ↔ ∃ w ∈ l.take (n+1),w.1=y:=by
    intro y
    rw [htk,List.mem_cons,p4 y]
    constructor
    ·rintro (e | ⟨w,hw,e⟩)
     ·exact ⟨_,List.mem_append_right _ (List.mem_singleton.2 rfl),e.symm⟩
     ·exact ⟨w,List.mem_append_left _ hw,e⟩
    ·rintro ⟨w,hw,e⟩
     rcases List.mem_append.1 hw with q | q
     ·exact .inr ⟨w,q,e⟩
     ·rw [List.mem_singleton.1 q] at e; exact .inl e.symm
   have hs0:sub3 0 (n:Int) l.length=true:=by unfold sub3; simp; omega
   show Ze1 (l,l,(l.length:Int),(n:Int),q.r qc,i,0,0,0,(0,0))=some (.inl (l,l,(l.length:Int),((n+1:Nat):Int),_))∧P (n+1) (nx n ((q,seen),qc))
   unfold Ze1
   simp only
   rw [bif_t (decide_eq_true (by omega)),bif_t (Y6k hn),bif_t hs0]
   simp only [hge,hcut]
   rw [Yc0 _ _ (by rw [hlt]; omega),wrapI (n:=(n:Int)+1) (by omega) (by omega)]
   simp only [Option.bind_some]
   by_cases c:(l.getD n zeroW).1 ∈ seen
   ·obtain ⟨w,hw1,hw2⟩:=(p4 _).1 c
    have hlt2:((l.take n).filter (notG (l.getD n zeroW).1)).length < n:=by
     have:=(List.length_filter_lt_length_iff_exists (p:=notG (l.getD n zeroW).1) (l:=l.take n)).2 ⟨w,hw1,by simp [notG,hw2]⟩
     omega
    have hnx:nx n ((q,seen),qc)=((q,seen),qc):=by
     show (MS.shutS i.2.1 l n (q,seen),if (l.getD n zeroW).1 ∈ seen then qc else _)=_
     unfold MS.shutS
     rw [if_pos c,if_pos c]
    rw [hnx,bif_f (beq_eq_false_iff_ne.2 (by omega))]
    refine ⟨rfl,p1,p2,p3.le (by omega),fun y=>?_,fun j h1 h2 h3=>p5 j (by omega) h2 h3⟩
    refine Iff.trans ⟨fun z=>List.mem_cons_of_mem _ z,fun z=>?_⟩ (hseen y)
    rcases List.mem_cons.1 z with e | e
    ·rw [e]; exact c
    ·exact e
   ·have hall:(l.take n).filter (notG (l.getD n zeroW).1)=l.take n:=by
     rw [List.filter_eq_self]
     intro w hw
     have:w.1 ≠ (l.getD n zeroW).1:=fun e=>c ((p4 _).2 ⟨w,hw,e⟩)
     simpa [notG] using this
    have hf:=hx c
    have hd:=p2.done_ok hf
    have hnx:nx n ((q,seen),qc)=((q.done (l.getD n zeroW) i.2.1 0 true,(l.getD n zeroW).1 :: seen),qc.map fun c=>leaveC c (l.getD n zeroW).1):=by
     show (MS.shutS i.2.1 l n (q,seen),if (l.getD n zeroW).1 ∈ seen then qc else _)=_
     unfold MS.shutS
     rw [if_neg c,if_neg c]
    have hqgl:=p2.gl
    have hdx:=Ybr q qc p1 (l.getD n zeroW) i.2.1 0 true hd (p3.le (by omega)) (by omega) (fun _=>⟨rfl,Yeu hf.2⟩)
    rw [hnx,hall,hlt,bif_t (beq_iff_eq.2 rfl),hdx]
    refine ⟨rfl,?_,p2.done hf _ _ _ (-1) (.inl rfl),Y3s (show q.Bd ((80 - (n+1))+1) from p3.le (by omega)) _ _ _ _,hseen,fun j h1 h2 h3=>?_⟩
    ·show RelCs _ (q.done (l.getD n zeroW) i.2.1 0 true).cs
     rw [Y3t]; exact Y7n p1 _
    ·have h3:(l.getD j zeroW).1 ∉ (l.getD n zeroW).1 :: seen:=h3
     rw [List.mem_cons,not_or] at h3
     have hy:=p5 j (by omega) h2 h3.2
     have eg:=done_g q (l.getD n zeroW) ⟨hf.1.1,hf.1.2.1⟩ i.2.1 0 true hy.1.1 h3.1
     refine ⟨⟨hy.1.1,?_,?_⟩,?_⟩
     ·show (l.getD j zeroW).1 < ((q.done (l.getD n zeroW) i.2.1 0 true).gs.length:Int)
      rw [Y3v q _ ⟨hf.1.1,hf.1.2.1⟩]; exact hy.1.2.1
     ·show ((q.done (l.getD n zeroW) i.2.1 0 true).g _).2.2.1=1 ∨ _
      rw [eg]; exact hy.1.2.2
     ·show fitI (q.done (l.getD n zeroW) i.2.1 0 true).p ((q.done (l.getD n zeroW) i.2.1 0 true).instr _) _ _ _
      unfold MS.instr
      rw [eg,done_p]; exact hy.2) (by
   rintro ⟨⟨q,seen⟩,qc⟩ -
   unfold Ze1
   simp only
   rw [bif_f (decide_eq_false (by omega))]) ((s,[]),cs) ⟨hr,h,hb,fun y=>by show y ∈ ([]:List Int) ↔ ∃ w ∈ l.take 0,w.1=y; simp,fun j _ hj _=>hw _ (by rw [Y63 hj]; exact List.getElem_mem hj)⟩
 have hpi:(upto nx 0 l.length ((s,[]),cs)).1=upto (MS.shutS i.2.1 l) 0 l.length (s,[]):=Ygw (fun q:S=>q.1) nx (MS.shutS i.2.1 l) (fun _ _=>rfl) l.length 0 ((s,[]),cs)
 obtain ⟨k1,k2,k3,_⟩:=key
 rw [hpi] at k1 k2
 exact ⟨_,k2,k1⟩
theorem Ydl {cs:List Ch} (hr:RelCs cs s.cs) (h:GI s (-1)) (r:Rdy s g) (hb:s.Bd 100) (hop:(s.instr g).1=3) :
  ∃ cs',RelCs cs' (s.shutO g (s.instr g).2.1).cs∧Z7b (s.r cs,g,s.instr g)=some ((s.shutO g (s.instr g).2.1).r cs'):=by
 have hi:=r.inok h
 have ha:0 ≤ (s.instr g).2.1∧(s.instr g).2.1 < s.cs.length:=by
  have h1:=hi.2.1
  rw [hop] at h1
  rw [h.cl]
  exact h1
 have hpc:=r.pc h
 have hgl:=h.gl
 have hcap:=Y2h h.rp
 have hscl:=h.cl
 have hkn:(s.instr g).2.1.toNat < s.cs.length:=by omega
 have hrel:=hr.2 _ hkn
 have hok:=h.chok ha
 have hch:=hrel.ok.2 hok
 have hac:inb (s.instr g).2.1 cs.length=true:=inbL.2 (by rw [hr.1]; exact ha)
 have hcl:=Ybq (cs.getD (s.instr g).2.1.toNat zeroC) hch.2.1
 unfold MS.shutO Z7b
 simp only [chz_eq,Yd9]
 rw [bif_t hac,hcl]
 simp only [Option.bind_some]
 rcases hrel.close with ⟨e,q⟩ | ⟨q,c',e,hc'⟩
 ·have q:(s.ch (s.instr g).2.1).cap < 0 ∨ (s.ch (s.instr g).2.1).closed=true ∨ (s.ch (s.instr g).2.1).sends ≠ []:=q
  rw [if_pos q,e]
  exact ⟨cs,hr,rfl⟩
 ·have q:¬ ((s.ch (s.instr g).2.1).cap < 0 ∨ (s.ch (s.instr g).2.1).closed=true ∨ (s.ch (s.instr g).2.1).sends ≠ []):=q
  rw [if_neg q,e]
  simp only [cond_false]
  obtain ⟨A,hA⟩:∃ A,A=(s.instr g).2.1:=⟨_,rfl⟩
  have q1:¬ (s.ch (s.instr g).2.1).cap < 0:=fun z=>q (.inl z)
  have q2:(s.ch (s.instr g).2.1).sends=[]:=by
   cases hz:(s.ch (s.instr g).2.1).sends with
   | nil=>rfl
   | cons a l=>exact absurd (.inr (.inr (by rw [hz]; simp))) q
  have hcs:∀ j:Nat,(s.csset (s.instr g).2.1 (s.ch (s.instr g).2.1).close).ch j=if j=(s.instr g).2.1.toNat then (s.ch (s.instr g).2.1).close else s.ch j:=fun j=>Y64 hkn zA _ j
  have hkk:(((s.instr g).2.1.toNat:Nat):Int)=(s.instr g).2.1:=by omega
  have h1:GI (s.csset (s.instr g).2.1 (s.ch (s.instr g).2.1).close) (-1):=by
   refine ⟨h.rp,h.gl,h.gor,by show (s.cs.set _ _).length=_; rw [List.length_set]; exact h.cl,fun a ha=>?_,fun j hj=>?_,fun j hj=>?_,h.ll,h.lok,h.lw,h.ol,h.ook,h.ow⟩
   ·rcases List.mem_or_eq_of_mem_set ha with z | z
    ·exact h.ch a z
    ·rw [z]; exact hok.close q1 q2
   ·have hj:j < s.cs.length:=by have:j < (s.cs.set (toN (s.instr g).2.1) (s.ch (s.instr g).2.1).close).length:=hj; simpa using this
    rw [hcs]
    split
    ·rename_i z
     have:=h.cc _ hkn
     rw [hkk] at this
     rw [z]; exact this
    ·exact h.cc j hj
   ·have hj:j < s.cs.length:=by have:j < (s.cs.set (toN (s.instr g).2.1) (s.ch (s.instr g).2.1).close).length:=hj; simpa using this
    rw [hcs]
    split
    ·refine ⟨fun y hy=>?_,fun y hy=>by cases hy⟩
     have hy:y ∈ (s.ch (s.instr g).2.1).sends:=hy
     rw [q2] at hy; cases hy
    ·exact h.cw j hj
  have h2:GI (((s.csset (s.instr g).2.1 (s.ch (s.instr g).2.1).close).tell (g,7,(s.instr g).2.1,0,-1)).on g) (-1):=(h1.tell _).on ⟨r.hg,r.st⟩
  have hfit:∀ x ∈ (s.ch (s.instr g).2.1).recvs,(((s.csset (s.instr g).2.1 (s.ch (s.instr g).2.1).close).tell (g,7,(s.instr g).2.1,0,-1)).on g).fitW (-1) x (s.instr g).2.1 false:=by
   intro x hx
   have hf:=h.cw' ha false x hx
   have hst:(s.g x.1).2.2.1=1:=hf.1.2.2.resolve_right (fun q=>by have:=hf.1.1; omega)
   have hne:x.1 ≠ g:=fun q=>by rw [q] at hst; have:=r.st; omega
   have eg:(((s.csset (s.instr g).2.1 (s.ch (s.instr g).2.1).close).tell (g,7,(s.instr g).2.1,0,-1)).on g).g x.1=s.g x.1:=on_g _ r.hg.1 hf.1.1 hne
   refine ⟨⟨hf.1.1,by rw [on_len]; exact hf.1.2.1,by rw [eg]; exact .inl hst⟩,?_⟩
   show fitI s.p (inAt s.p (MS.g _ x.1)) _ _ _
   rw [eg]
   exact hf.2
  obtain ⟨cs',k2,k3⟩:=Ydk (cs:=cs.set (toN (s.instr g).2.1) c') (hr.set hc') h2 (s.instr g) (s.ch (s.instr g).2.1).recvs hok.rw.2.1 ((hb.le (show 81 ≤ 100 by omega)).tell (g,7,(s.instr g).2.1,0,-1)) hfit
  refine ⟨cs',k2,?_⟩
  rw [show Z69 (s.r cs,(s.instr g).2.1,c')=some ((s.csset (s.instr g).2.1 (s.ch (s.instr g).2.1).close).r (cs.set (toN (s.instr g).2.1) c')) from Ybo s cs (s.instr g).2.1 ha.1 (by rw [hr.1]; omega) c']
  simp only [Option.bind_some]
  rw [Ydu (s.csset (s.instr g).2.1 (s.ch (s.instr g).2.1).close) (cs.set (toN (s.instr g).2.1) c') (g,7,(s.instr g).2.1,0,-1) hb]
  simp only [Option.bind_some]
  rw [ron_x (g:=g) ((s.csset (s.instr g).2.1 (s.ch (s.instr g).2.1).close).tell (g,7,(s.instr g).2.1,0,-1)) (cs.set (toN (s.instr g).2.1) c') r.hg (by show s.gs.length ≤ 1000; omega) (h.gok r.hg) (by show (s.g g).2.2.1 ≠ 2; have:=r.st; omega) (by have:=hpc.2.1; have:=hpc.2.2; show (s.g g).2.1 ≤ 1000; omega)]
  simp only [Option.bind_some]
  show ((loop Ze1 ((s.ch (s.instr g).2.1).recvs,(s.ch (s.instr g).2.1).recvs,((s.ch (s.instr g).2.1).recvs.length:Int),0,_)).bind _)=_
  rw [k3]
  rfl
end
end Go.Proofs.YthdlpkdojipfhaaGreat.VX.VxM_M
set_option linter.unusedVariables false
set_option linter.unusedSimpArgs false
namespace Go.Proofs.YthdlpkdojipfhaaGreat.VX.VxM_M
open Go.Proofs
theorem Yds (l:Lk) (w:W) (hl:wOK l.2) (hn:newW l.2 w):Z5l (l,w)=some (if l.1=false then ((true,[]),true,0) else ((true,l.2++[w]),false,0)):=by
 unfold Z5l
 simp only
 have hlen:=hl.2.1
 cases h1:l.1 with
 | false=>rfl
 | true =>
  rw [bif_f (by rfl),has_eq _ _ _ (by omega)]
  simp only [Option.bind_some]
  have h2:(w.1,w.2.1) ∉ l.2.map keyW:=hn.1
  have h3:=hn.2
  rw [bif_f (decide_eq_false h2),bif_f (beq_eq_false_iff_ne.2 (by omega)),bif_t (Y5a.2 (by simp; omega)),bif_t (Y5a.2 (by simp; omega))]
  rfl
section
variable {s:MS} {g:Int}
theorem ron_r (h:GI s (-1)) (r:Rdy s g) (s':MS) (e1:s'.p=s.p) (e2:s'.gs=s.gs) (cs:List Ch):Z6v (s'.r cs,g)=some ((s'.on g).r cs):=by
 have hgl:=h.gl
 have hpc:=r.pc h
 have e3:s'.g g=s.g g:=by unfold MS.g; rw [e2]
 exact ron_x s' cs (by rw [e2]; exact r.hg) (by rw [e2]; omega) (by rw [e1,e3]; exact h.gok r.hg) (by rw [e3]; have:=r.st; omega) (by rw [e3]; have:=hpc.2.1; have:=hpc.2.2; omega)
theorem Ye6 (h:GI s (-1)) (r:Rdy s g) (s':MS) (e2:s'.gs=s.gs) (cs:List Ch):Z7n (s'.r cs,g)=some ((s'.wait g).r cs):=by
 have hgl:=h.gl
 exact Ye7 s' cs (by rw [e2]; exact r.hg) (by rw [e2]; omega)
theorem lk_len {p:Pg} (hp:RightP p):p.2.1 ≤ 1000∧p.2.2.1 ≤ 1000:=by
 have:=hp.sizes
 unfold Yfa at this
 simp only [Bool.and_eq_true,decide_eq_true_eq,Y6i] at this
 omega
theorem Ydt {cs:List Ch} (h:GI s (-1)) (r:Rdy s g) (hb:s.Bd 4) (hop:(s.instr g).1=5):Z7h (s.r cs,g,s.instr g)=some ((s.lock g (s.instr g).2.1).r cs):=by
 have ha:=r.la h (.inl hop)
 have hlo:=h.lokk ha
 have hlw:=h.lw' ha
 have hnw:newW (s.lk (s.instr g).2.1).2 (g,0,s.ev):=Ybg h hlo.1 (fun y hy=>⟨(hlw y hy).1,(hlw y hy).2.1⟩) (by have:=r.st; omega)
 have htk:=Yds (s.lk (s.instr g).2.1) (g,0,s.ev) hlo.1 hnw
 have hll:=h.ll
 have hln:=(lk_len h.rp).1
 generalize hA:(s.instr g).2.1=A at *
 have ha':inb A (s.tell (g,10,A,0,-1)).ls.length=true:=inbL.2 ha
 unfold Z7h
 simp only [Yd9,Option.bind_some]
 rw [hA,Ydu s cs (g,10,A,0,-1) hb]
 simp only [Option.bind_some,lkz_eq]
 rw [bif_t ha',show (s.tell (g,10,A,0,-1)).ls.getD A.toNat (false,[])=s.lk A from rfl,htk]
 simp only [Option.bind_some]
 unfold MS.lock
 by_cases c1:(s.lk A).1=false
 ·rw [if_pos c1,if_pos c1,Yct (s.tell (g,10,A,0,-1)) cs A ha.1 (by show s.ls.length ≤ 1000; omega)]
  simp only [Option.bind_some,Bool.not_true,cond_false]
  rw [Ydu ((s.tell (g,10,A,0,-1)).lset A (true,[])) cs (g,11,A,0,s.ev) (hb.tell (g,10,A,0,-1))]
  simp only [Option.bind_some]
  rw [ron_r h r (((s.tell (g,10,A,0,-1)).lset A (true,[])).tell (g,11,A,0,s.ev)) rfl rfl]
  rfl
 ·rw [if_neg c1,if_neg c1,Yct (s.tell (g,10,A,0,-1)) cs A ha.1 (by show s.ls.length ≤ 1000; omega)]
  simp only [Option.bind_some,Bool.not_false,cond_true]
  rw [Ye6 h r ((s.tell (g,10,A,0,-1)).lset A (true,(s.lk A).2++[(g,0,s.ev)])) rfl]
  rfl
theorem Ycj {cs:List Ch} (h:GI s (-1)) (r:Rdy s g) (hb:s.Bd 4) (hop:(s.instr g).1=6):Z6h (s.r cs,g,s.instr g)=some ((s.unlock g (s.instr g).2.1).r cs):=by
 have ha:=r.la h (.inr hop)
 have hlo:=h.lokk ha
 have hlw:=h.lw' ha
 have hll:=h.ll
 have hgl:=h.gl
 have hln:=(lk_len h.rp).1
 generalize hA:(s.instr g).2.1=A at *
 have ha':inb A s.ls.length=true:=inbL.2 ha
 unfold Z6h
 simp only [Yd9,Option.bind_some,lkz_eq]
 rw [hA,bif_t ha',show s.ls.getD A.toNat (false,[])=s.lk A from rfl]
 unfold MS.unlock
 by_cases c1:(s.lk A).1=false
 ·rw [c1,if_pos rfl]
  rfl
 have c1':(s.lk A).1=true:=by simpa using c1
 rw [c1',if_neg (by simp),bif_f (by rfl),bif_t ha',Yc3]
 simp only [Option.bind_some]
 rw [Yct s cs A ha.1 (by omega)]
 simp only [Option.bind_some]
 rw [Ydu (s.lset A (given (s.lk A).2).1) cs (g,12,A,0,-1) hb]
 simp only [Option.bind_some]
 rw [ron_r h r ((s.lset A (given (s.lk A).2).1).tell (g,12,A,0,-1)) rfl rfl]
 simp only [Option.bind_some]
 by_cases c2:(given (s.lk A).2).2.2=true
 ·rw [if_pos c2,bif_t c2]
  have hx:∃ x l,(s.lk A).2=x :: l∧(given (s.lk A).2).2.1=x:=by
   cases hq:(s.lk A).2 with
   | nil=>rw [hq] at c2; cases c2
   | cons x l=>exact ⟨x,l,rfl,rfl⟩
  obtain ⟨x,l,e1,e3⟩:=hx
  have hf:=hlw x (by rw [e1]; exact List.mem_cons_self ..)
  have hst:(s.g x.1).2.2.1=1:=hf.1.2.2.resolve_right (fun q=>by have:=hf.1.1; omega)
  have hne:x.1 ≠ g:=fun q=>by rw [q] at hst; have:=r.st; omega
  have hgx:(((s.lset A (given (s.lk A).2).1).tell (g,12,A,0,-1)).on g).g x.1=s.g x.1:=on_g _ r.hg.1 hf.1.1 hne
  have hok:gOK s.p (s.g x.1):=h.gok ⟨hf.1.1,hf.1.2.1⟩
  have hlen:(((s.lset A (given (s.lk A).2).1).tell (g,12,A,0,-1)).on g).gs.length=s.gs.length:=on_len _ _
  rw [e3,Ydu (((s.lset A (given (s.lk A).2).1).tell (g,12,A,0,-1)).on g) cs (x.1,11,A,0,x.2.2) (hb.tell (g,12,A,0,-1))]
  simp only [Option.bind_some]
  have hbl:=Y20 h.rp hok
  have hpc:=hok.2.2.2.1
  rw [ron_x (g:=x.1) ((((s.lset A (given (s.lk A).2).1).tell (g,12,A,0,-1)).on g).tell (x.1,11,A,0,x.2.2)) cs (by show 0 ≤ x.1∧x.1 < ((((s.lset A (given (s.lk A).2).1).tell (g,12,A,0,-1)).on g).gs.length:Int); rw [hlen]; exact ⟨hf.1.1,hf.1.2.1⟩) (by show (((s.lset A (given (s.lk A).2).1).tell (g,12,A,0,-1)).on g).gs.length ≤ 1000; rw [hlen]; omega)
   (by show gOK s.p ((((s.lset A (given (s.lk A).2).1).tell (g,12,A,0,-1)).on g).g x.1); rw [hgx]; exact hok) (by show ((((s.lset A (given (s.lk A).2).1).tell (g,12,A,0,-1)).on g).g x.1).2.2.1 ≠ 2; rw [hgx]; omega) (by show ((((s.lset A (given (s.lk A).2).1).tell (g,12,A,0,-1)).on g).g x.1).2.1 ≤ 1000; rw [hgx]; omega)]
  rfl
 ·rw [if_neg c2,bif_f (by simpa using c2)]
theorem Ydn (s:MS) (cs:List Ch) (hg:0 ≤ g∧g < s.gs.length) (hl:s.gs.length ≤ 1000) (hok:gOK s.p (s.g g)) (t A els:Int) (hA:A=(s.instr g).2.1) (hE:els=(s.instr g).2.2) (he:els ≤ (blk s.p (s.g g).1).length) {m:Nat} (hb:s.Bd m) :
  ((Z7j (s.r cs,g,15,A,0,t)).bind fun r=>Z7l (r,g,els))=some ((s.skip g t).r cs):=by
 subst hA hE
 rw [Ydu s cs (g,15,(s.instr g).2.1,0,t) hb]
 simp only [Option.bind_some]
 rw [rto_x (g:=g) (s.tell (g,15,(s.instr g).2.1,0,t)) cs _ hg hl hok.1 hok.2.1 he]
 rfl
theorem rdo_x {cs:List Ch} (h:GI s (-1)) (r:Rdy s g) (hb:s.Bd 4) (hop:(s.instr g).1=7):Z6b (s.r cs,g,s.instr g)=some ((s.doO g (s.instr g).2.1).r cs):=by
 have ha:=r.oa h (.inl hop)
 have hoo:=h.ookk ha
 have hw:isW (g,0,s.ev):=⟨r.hg.1,by show (0:Int) ≤ 0; omega,hb.2.1⟩
 have hol:=h.ol
 have hgl:=h.gl
 have hln:=(lk_len h.rp).2
 have hdo:=Ybz (s.oc (s.instr g).2.1) (g,0,s.ev) (by have:=hoo.2.1.2.1; omega) hoo hw
 have hst2:(s.g g).2.2.1 ≠ 2:=by have:=r.st; omega
 have hob:=once_b h r.hg hst2 hop
 obtain ⟨A,hA⟩:∃ A,A=(s.instr g).2.1:=⟨_,rfl⟩
 rw [← hA] at ha hoo hdo ⊢
 have ha':inb A (s.tell (g,13,A,0,-1)).os.length=true:=inbL.2 ha
 unfold Z6b MS.doO
 simp only [Yd9,Option.bind_some]
 rw [← hA,Ydu s cs (g,13,A,0,-1) hb]
 simp only [Option.bind_some,ocz_eq]
 rw [bif_t ha',show (s.tell (g,13,A,0,-1)).os.getD A.toNat zeroO=s.oc A from rfl,hdo]
 simp only [Option.bind_some]
 generalize hd:Go.Proofs.YthdlpkdojipfhaaGreat.VX.VxM_M.done (s.oc A) (g,0,s.ev)=d at *
 by_cases c:d.2.2=0
 ·rw [if_neg (fun q=>q c),bif_f (by simpa using c),Ycx (s.tell (g,13,A,0,-1)) cs A ha.1 (by show s.os.length ≤ 1000; omega)]
  simp only [Option.bind_some]
  by_cases d0:d.2.1=0
  ·rw [if_pos d0,bif_t (by simpa using d0),ron_r h r ((s.tell (g,13,A,0,-1)).oset A d.1) rfl rfl]
   rfl
  rw [if_neg d0,bif_f (by simpa using d0)]
  by_cases d1:d.2.1=1
  ·rw [if_pos d1,bif_t (by simpa using d1),Ye6 h r ((s.tell (g,13,A,0,-1)).oset A d.1) rfl]
   rfl
  ·rw [if_neg d1,bif_f (by simpa using d1)]
   have hsk:=Ydn (g:=g) ((s.tell (g,13,A,0,-1)).oset A d.1) cs r.hg (by show s.gs.length ≤ 1000; omega) (h.gok r.hg) s.ev A (s.instr g).2.2 hA rfl hob.2 (hb.tell (g,13,A,0,-1))
   rw [← hsk]
   rw [Ydu ((s.tell (g,13,A,0,-1)).oset A d.1) cs (g,15,A,0,s.ev) (hb.tell (g,13,A,0,-1))]
   simp only [Option.bind_some]
   exact Option.bind_fun_some _
 ·rw [if_pos c,bif_t (by simpa using c),Ye6 h r (s.tell (g,13,A,0,-1)) rfl]
  rfl
theorem Ydo {cs:List Ch} (h:GI s (-1)) (i:In) (a:Int) (hia:i.2.1=a) (l:List W) (hl:l.length ≤ 64) (hb:s.Bd 80) (hw:∀ x ∈ l,s.fitL (-1) x 7 a) (hd:(l.map keyW).Nodup) (ha:∀ k:Nat,k < s.os.length→(k:Int)=a→(s.oc k).2.2=[]) :
  loop Zdl (l,(l.length:Int),0,s.r cs,i,0,0,0,(0,0))=some ((s.skips l).r cs,0,0,0,(0,0)):=by
 have key:=Y8a (f:=Zdl) l.length (fun k s=>(l,(l.length:Int),(k:Int),s.r cs,i,0,0,0,(0,0))) (fun k s=>s.skip (l.getD k zeroW).1 (l.getD k zeroW).2.2)
  (fun k s=>GI s (-1)∧s.Bd (80 - k)∧(∀ j,k ≤ j→j < l.length→s.fitL (-1) (l.getD j zeroW) 7 a)∧(∀ k:Nat,k < s.os.length→(k:Int)=a→(s.oc k).2.2=[])) (fun s=>(s.r cs,0,0,0,(0,0))) (by
   rintro k s hk ⟨q1,q2,q3,q4⟩
   have hx:=q3 k (Nat.le_refl _) hk
   have hget:l.getD k zeroW=l[k]:=Y63 hk _
   have hst:(s.g (l.getD k zeroW).1).2.2.1=1:=hx.1.2.2.resolve_right (fun q=>by have:=hx.1.1; omega)
   have hgr:0 ≤ (l.getD k zeroW).1∧(l.getD k zeroW).1 < s.gs.length:=⟨hx.1.1,hx.1.2.1⟩
   have hst2:(s.g (l.getD k zeroW).1).2.2.1 ≠ 2:=by omega
   have hgl:=q1.gl
   refine ⟨?_,q1.skip (g:=(l.getD k zeroW).1) hgr hst2 hx.2.2.1 _ (q1.onone hx (fun j hj e y hy=>by rw [q4 j hj e] at hy; cases hy)),(show s.Bd ((80 - (k+1))+1) from q2.le (by omega)).tell _,?_,q4⟩
   ·unfold Zdl
    simp only
    have hge:getAt ((0:Int),((0:Int),(0:Int))) l (toN (k:Int))=l.getD k zeroW:=by rw [Y61]; rfl
    rw [bif_t (decide_eq_true (by omega)),bif_t (Y6k hk)]
    simp only [hge]
    have hob:=once_b q1 hgr hst2 hx.2.2.1
    have hia2:a=(s.instr (l.getD k zeroW).1).2.1:=hx.2.2.2.symm
    rw [hia,hia2,Ydu s cs ((l.getD k zeroW).1,15,(s.instr (l.getD k zeroW).1).2.1,0,(l.getD k zeroW).2.2) q2]
    simp only [Option.bind_some]
    have hin:Z6n ((s.tell ((l.getD k zeroW).1,15,(s.instr (l.getD k zeroW).1).2.1,0,(l.getD k zeroW).2.2)).w cs,(l.getD k zeroW).1)=some (s.instr (l.getD k zeroW).1):=Ycp (g:=(l.getD k zeroW).1) (s.tell ((l.getD k zeroW).1,15,(s.instr (l.getD k zeroW).1).2.1,0,(l.getD k zeroW).2.2)) cs hgr (q1.gok hgr) hst2
    rw [hin]
    simp only [Option.bind_some]
    have hok:=q1.gok hgr
    rw [rto_x (g:=(l.getD k zeroW).1) (s.tell ((l.getD k zeroW).1,15,(s.instr (l.getD k zeroW).1).2.1,0,(l.getD k zeroW).2.2)) cs _ hgr (by show s.gs.length ≤ 1000; omega) hok.1 hok.2.1 hob.2,wrapI (by omega) (by omega)]
    rfl
   ·intro j hj1 hj2
    have hy:=q3 j (by omega) hj2
    have hne:(l.getD j zeroW).1 ≠ (l.getD k zeroW).1:=by
     intro e
     have e2:keyW (l.getD j zeroW)=keyW (l.getD k zeroW):=by unfold keyW; rw [e,hy.2.1,hx.2.1]
     rw [Y63 hj2,Y63 hk] at e2
     have h1:(l.map keyW)[j]'(by simpa using hj2)=(l.map keyW)[k]'(by simpa using hk):=by simpa using e2
     have:=(List.getElem_inj hd).1 h1
     omega
    have eg:=skip_g (g:=(l.getD k zeroW).1) s (l.getD k zeroW).2.2 hgr.1 hy.1.1 hne
    refine ⟨⟨hy.1.1,by rw [Yfd]; exact hy.1.2.1,by rw [eg]; exact hy.1.2.2⟩,hy.2.1,?_⟩
    unfold MS.instr
    rw [eg]
    exact hy.2.2) (by
   rintro s -
   unfold Zdl
   simp only
   rw [bif_f (decide_eq_false (by omega))]) s ⟨h,hb,fun j _ hj=>hw _ (by rw [Y63 hj]; exact List.getElem_mem hj),ha⟩
 exact key.1
theorem rend_x {cs:List Ch} (h:GI s (-1)) (r:Rdy s g) (hb:s.Bd 100) (hop:(s.instr g).1=8):Z6f (s.r cs,g,s.instr g)=some ((s.endO g (s.instr g).2.1).r cs):=by
 have ha:=r.oa h (.inr hop)
 have hoo:=h.ookk ha
 have how:=h.ow' ha
 have hol:=h.ol
 have hln:=(lk_len h.rp).2
 have hen:=Yc1 (s.oc (s.instr g).2.1) g
 obtain ⟨A,hA⟩:∃ A,A=(s.instr g).2.1:=⟨_,rfl⟩
 rw [← hA] at ha hoo how hen ⊢
 unfold MS.endO Z6f
 simp only [Yd9,ocz_eq]
 rw [← hA,bif_t (inbL.2 ha),show s.os.getD A.toNat zeroO=s.oc A from rfl,hen]
 simp only [Option.bind_some]
 by_cases c1:(s.oc A).1=1∧(s.oc A).2.1=g
 ·rw [if_pos c1,if_pos c1]
  simp only
  rw [bif_f (by rfl)]
  have h1:GI (s.oset A (2,0,[])) (-1):=h.oset ha ⟨by show (0:Int) ≤ 0; omega,⟨by simp,by simp,by simp⟩,.inr ⟨.inr rfl,rfl,rfl⟩⟩ (by simp)
  have h2:GI (((s.oset A (2,0,[])).tell (g,14,A,0,-1)).on g) (-1):=(h1.tell _).on ⟨r.hg,r.st⟩
  have hgx:∀ x ∈ (s.oc A).2.2,(((s.oset A (2,0,[])).tell (g,14,A,0,-1)).on g).fitL (-1) x 7 A:=by
   intro x hx
   have hf:=how x hx
   have hst:(s.g x.1).2.2.1=1:=hf.1.2.2.resolve_right (fun q=>by have:=hf.1.1; omega)
   have hne:x.1 ≠ g:=fun q=>by rw [q] at hst; have:=r.st; omega
   have eg:(((s.oset A (2,0,[])).tell (g,14,A,0,-1)).on g).g x.1=s.g x.1:=on_g _ r.hg.1 hf.1.1 hne
   refine ⟨⟨hf.1.1,by rw [on_len]; exact hf.1.2.1,by rw [eg]; exact .inl hst⟩,hf.2.1,?_⟩
   unfold MS.instr
   rw [eg]
   exact hf.2.2
  have hAn:A.toNat < s.os.length:=by omega
  have key:=Ydo (cs:=cs) h2 (s.instr g) A hA.symm (s.oc A).2.2 hoo.2.1.2.1 ((hb.le (show 81 ≤ 100 by omega)).tell (g,14,A,0,-1)) hgx hoo.2.1.2.2 (fun k hk e=>by
   show ((s.os.set (toN A) (2,0,[])).getD k zeroO).2.2=[]
   rw [show toN A=A.toNat from rfl,Y64 hAn,if_pos (by omega)])
  rw [Ycx s cs A ha.1 (by omega)]
  simp only [Option.bind_some]
  rw [Ydu (s.oset A (2,0,[])) cs (g,14,A,0,-1) hb]
  simp only [Option.bind_some]
  rw [ron_r h r ((s.oset A (2,0,[])).tell (g,14,A,0,-1)) rfl rfl]
  simp only [Option.bind_some]
  rw [key]
  rfl
 ·rw [if_neg c1,if_neg c1,bif_t (by rfl)]
theorem Ybn {cs:List Ch} (h:GI s (-1)) (r:Rdy s g) (hb:s.Bd 4) (hop:(s.instr g).1=9):Z67 (s.r cs,g,s.instr g)=some ((s.beginO g (s.instr g).2.1).r cs):=by
 have h1:=(r.inok h).2.1
 rw [hop] at h1
 have h1:0 ≤ (s.instr g).2.1∧(s.instr g).2.1 < (s.p.2.2.2.2.2.length:Int):=h1
 unfold MS.beginO Z67
 simp only [Yd9,Option.bind_some]
 generalize (s.instr g).2.1=A at *
 by_cases c8:s.gs.length=8
 ·rw [if_pos c8,bif_t (by rw [c8]; rfl)]
 have hl:=h.gl
 let s2:MS:=(s.tell (g,1,s.gs.length,0,-1)).tell (s.gs.length,0,0,0,s.ev)
 have hgn:0 ≤ (s.gs.length:Int)∧(s.gs.length:Int) < ((s.gs++[(A,0,0,false)]).length:Int):=by simp; omega
 have hat:gAt (s.gs++[(A,0,0,false)]) (s.gs.length:Int)=(A,0,0,false):=by
  unfold gAt
  simp [List.getD]
 have hset:(s.gs++[(A,0,0,false)]).set (toN (s.gs.length:Int)) (gTo s.p (A,0,0,false) 0)=s.gs++[gTo s.p (A,0,0,false) 0]:=by
  rw [Ygp,List.set_append_right _ _ (Nat.le_refl _),Nat.sub_self]; rfl
 rw [if_neg c8,bif_f (by simp; omega),Ydu s cs (g,1,s.gs.length,0,-1) hb]
 simp only [Option.bind_some]
 rw [Ydu (s.tell (g,1,s.gs.length,0,-1)) cs (s.gs.length,0,0,0,s.ev) (hb.tell _)]
 simp only [Option.bind_some]
 rw [bif_t (Y5a.2 (by show 0+s.gs.length ≤ _; omega)),bif_t (Y5a.2 (by show s.gs.length+1 ≤ _; omega))]
 have hto:=rto_x (g:=(s.gs.length:Int)) (s2.add (A,0,0,false)) cs 0 hgn (by show (s.gs++[_]).length ≤ 1000; simp; omega) (by show 0 ≤ (gAt (s.gs++[(A,0,0,false)]) (s.gs.length:Int)).1; rw [hat]; exact h1.1) (by show (gAt (s.gs++[(A,0,0,false)]) (s.gs.length:Int)).1 < (s.p.2.2.2.2.2.length:Int); rw [hat]; exact h1.2) (by show (0:Int) ≤ ((List.length _:Nat):Int); omega)
 have hto2:(s2.add (A,0,0,false)).to (s.gs.length:Int) 0=s2.add (gTo s.p (A,0,0,false) 0):=by
  unfold MS.to
  show { s2 with gs:=(s.gs++[(A,0,0,false)]).set (toN (s.gs.length:Int)) (gTo s.p (gAt (s.gs++[(A,0,0,false)]) (s.gs.length:Int)) 0) }=_
  rw [hat,hset]
 rw [hto2] at hto
 have hto:Z7l (((s.p,[]++s.gs++(A,0,0,false) :: [],cs,s.ls,s.os,s2.ev,s.st),s2.L),(s.gs.length:Int),0)=some ((s2.add (gTo s.p (A,0,0,false) 0)).r cs):=hto
 rw [show Z7l _=some ((s2.add (gTo s.p (A,0,0,false) 0)).r cs) from hto]
 simp only [Option.bind_some]
 have hg3:(s2.add (gTo s.p (A,0,0,false) 0)).g g=s.g g:=by
  show (s.gs++[gTo s.p (A,0,0,false) 0]).getD g.toNat zGor=s.gs.getD g.toNat zGor
  have:g.toNat < s.gs.length:=by have:=r.hg; omega
  simp [List.getD,List.getElem?_append_left this]
 have hlen3:(s2.add (gTo s.p (A,0,0,false) 0)).gs.length=s.gs.length+1:=by show (s.gs++[_]).length=_; simp
 have hpc:=r.pc h
 rw [ron_x (g:=g) (s2.add (gTo s.p (A,0,0,false) 0)) cs (by rw [hlen3]; have:=r.hg; omega) (by rw [hlen3]; omega) (by rw [hg3]; exact h.gok r.hg) (by rw [hg3]; have:=r.st; omega) (by rw [hg3]; have:=hpc.2.1; have:=hpc.2.2; omega)]
 rfl
theorem Ycq {cs:List Ch} (h:GI s (-1)) (r:Rdy s g) (hop:(s.instr g).1=12 ∨ (s.instr g).1=13):Z6p (s.r cs,g,s.instr g)=some ((if (s.instr g).1=12 then s.to g (s.instr g).2.1 else s.orElse g (s.instr g).2.1).r cs):=by
 have h1:=(r.inok h).2.1
 have h2:0 ≤ (s.instr g).2.1∧(s.instr g).2.1 ≤ (blk s.p (s.g g).1).length:=by
  rcases hop with e | e <;> (rw [e] at h1; have h3:(s.instr g).2.1 < ((blk s.p (s.g g).1).length:Int)+1:=h1.2; omega)
 have hgl:=h.gl
 have hok:=h.gok r.hg
 have hto:=rto_x (g:=g) s cs (s.instr g).2.1 r.hg (by omega) hok.1 hok.2.1 h2.2
 unfold Z6p
 simp only [gAt_eq]
 by_cases c:(s.instr g).1=12
 ·rw [if_pos c,bif_t (by simpa using c),hto]; rfl
 ·rw [if_neg c,bif_f (by simpa using c),bif_t (inbL.2 r.hg)]
  unfold MS.orElse
  by_cases c1:(s.g g).2.2.2=true
  ·rw [if_pos c1,bif_t (show (gAt s.gs g).2.2.2=true from c1),hto]; rfl
  ·rw [if_neg c1,bif_f (show (gAt s.gs g).2.2.2=false from Bool.eq_false_iff.2 c1),ron_r h r s rfl rfl]; rfl
end
end Go.Proofs.YthdlpkdojipfhaaGreat.VX.VxM_M
set_option linter.unusedVariables false
set_option linter.unusedSimpArgs false
namespace Go.Proofs.YthdlpkdojipfhaaGreat.VX.VxM_M
open Go.Proofs
theorem skips_cs' (l:List W):∀ n k (s:MS),(upto (fun k s=>s.skip (l.getD k zeroW).1 (l.getD k zeroW).2.2) k n s).cs=s.cs
 | 0,k,s=>rfl
 | n+1,k,s=>(skips_cs' l n (k+1) (s.skip (l.getD k zeroW).1 (l.getD k zeroW).2.2)).trans rfl
theorem Yfe (l:List W) (s:MS):(upto (fun k s=>s.skip (l.getD k zeroW).1 (l.getD k zeroW).2.2) 0 l.length s).cs=s.cs:=skips_cs' l _ _ _
section
variable {s:MS}
theorem ract_x {cs:List Ch} (hr:RelCs cs s.cs) (h:GI s (-1)) {c:Cho} (hc:c ∈ s.chs) (hb:s.Bd 100) (hs:∀ a ∈ s.cs,a.sent < 1048576) :
  ∃ cs',RelCs cs' (s.act c).cs∧Z65 (s.r cs,c)=some ((s.act c).r cs'):=by
 obtain ⟨_,r,h1,h2⟩:=Y2w h hc
 have hi:=r.inok h
 have hb4:s.Bd 4:=hb.le (by omega)
 have hin:=Ycp (g:=c.1) s cs r.hg (h.gok r.hg) (by have:=r.st; omega)
 have hkr:(s.instr c.1).1=1 ∨ (s.instr c.1).1=2→0 ≤ (s.instr c.1).2.1∧(s.instr c.1).2.1 < s.cs.length:=by
  intro q
  have h1:=hi.2.1
  rw [h.cl]
  rcases q with q | q <;> (rw [q] at h1; exact h1)
 have hw:isW (c.1,0,s.ev):=⟨r.hg.1,by show (0:Int) ≤ 0; omega,hb.2.1⟩
 unfold Z65
 simp only
 rw [hin]
 simp only [Option.bind_some]
 unfold MS.act
 by_cases c0:(s.instr c.1).1=0
 ·rw [if_pos c0,bif_t (by simpa using c0),ron_r h r s rfl rfl]
  exact ⟨cs,hr,rfl⟩
 rw [if_neg c0,bif_f (by simpa using c0)]
 by_cases c1:(s.instr c.1).1=1
 ·have hk:=hkr (.inl c1)
  rw [if_pos c1,bif_t (decide_eq_true (by omega))]
  unfold Z6z
  simp only [Yd9]
  rw [bif_f (by rw [c1]; rfl)]
  simp only [Option.bind_some]
  rw [Ydu s cs (c.1,2,(s.instr c.1).2.1,0,-1) hb]
  simp only [Option.bind_some]
  obtain ⟨cs',e1,e2⟩:=Yd7 (s:=s.tell (c.1,2,(s.instr c.1).2.1,0,-1)) (x:=(c.1,0,s.ev)) (k:=(s.instr c.1).2.1) (b:=true) hr (h.tell _) hk r.hg r.st hw (hs _ (Y8z (by omega) zA)) (.inr ⟨c1,rfl,rfl⟩) ((hb4.tell _).le (by omega))
  rw [e2]
  exact ⟨cs',e1,rfl⟩
 rw [if_neg c1]
 by_cases c2:(s.instr c.1).1=2
 ·have hk:=hkr (.inr c2)
  rw [if_pos c2,bif_t (decide_eq_true (by omega))]
  unfold Z6z
  simp only [Yd9]
  rw [bif_t (by rw [c2]; rfl)]
  simp only [Option.bind_some]
  rw [Ydu s cs (c.1,4,(s.instr c.1).2.1,0,-1) hb]
  simp only [Option.bind_some]
  obtain ⟨cs',e1,e2⟩:=Yd7 (s:=s.tell (c.1,4,(s.instr c.1).2.1,0,-1)) (x:=(c.1,0,s.ev)) (k:=(s.instr c.1).2.1) (b:=false) hr (h.tell _) hk r.hg r.st hw (hs _ (Y8z (by omega) zA)) (.inr ⟨c2,rfl,rfl⟩) ((hb4.tell _).le (by omega))
  rw [e2]
  exact ⟨cs',e1,rfl⟩
 rw [if_neg c2,bif_f (decide_eq_false (by have:=hi.1; omega))]
 by_cases c3:(s.instr c.1).1=3
 ·obtain ⟨cs',e1,e2⟩:=Ydl hr h r hb c3
  rw [if_pos c3,bif_t (by simpa using c3),e2]
  exact ⟨cs',e1,rfl⟩
 rw [if_neg c3,bif_f (by simpa using c3)]
 by_cases c4:(s.instr c.1).1=4
 ·obtain ⟨cs',e1,e2⟩:=rsel_x hr h r hb4 hs c.2 c4 (fun q=>(h1 q).2.1) (fun q=>h2 q c4)
  rw [if_pos c4,bif_t (by simpa using c4),e2]
  exact ⟨cs',e1,rfl⟩
 rw [if_neg c4,bif_f (by simpa using c4)]
 by_cases c5:(s.instr c.1).1=5
 ·rw [if_pos c5,bif_t (decide_eq_true (by omega))]
  unfold Z7f
  simp only
  rw [bif_t (by simpa using c5),Ydt h r hb4 c5]
  exact ⟨cs,by unfold MS.lock; split <;> exact hr,rfl⟩
 rw [if_neg c5]
 by_cases c6:(s.instr c.1).1=6
 ·rw [if_pos c6,bif_t (decide_eq_true (by omega))]
  unfold Z7f
  simp only
  rw [bif_f (by simpa using c5),bif_t (by simpa using c6),Ycj h r hb4 c6]
  exact ⟨cs,by unfold MS.unlock; split; exact hr; split <;> exact hr,rfl⟩
 rw [if_neg c6]
 by_cases c7:(s.instr c.1).1=7
 ·rw [if_pos c7,bif_t (decide_eq_true (by omega))]
  unfold Z7f
  simp only
  rw [bif_f (by simpa using c5),bif_f (by simpa using c6),bif_t (by simpa using c7),rdo_x h r hb4 c7]
  exact ⟨cs,by unfold MS.doO; split; exact hr; split; exact hr; split <;> exact hr,rfl⟩
 rw [if_neg c7]
 by_cases c8:(s.instr c.1).1=8
 ·rw [if_pos c8,bif_t (decide_eq_true (by omega))]
  unfold Z7f
  simp only
  rw [bif_f (by simpa using c5),bif_f (by simpa using c6),bif_f (by simpa using c7),rend_x h r hb c8]
  refine ⟨cs,?_,rfl⟩
  unfold MS.endO
  split
  ·unfold MS.skips
   rw [Yfe]; exact hr
  ·exact hr
 rw [if_neg c8,bif_f (decide_eq_false (by have:=hi.1; omega))]
 by_cases c9:(s.instr c.1).1=9
 ·rw [if_pos c9,bif_t (by simpa using c9),Ybn h r hb4 c9]
  exact ⟨cs,by unfold MS.beginO; split <;> exact hr,rfl⟩
 rw [if_neg c9,bif_f (by simpa using c9)]
 by_cases c10:(s.instr c.1).1=10
 ·rw [if_pos c10,bif_t (decide_eq_true (by omega))]
  simp only [Yd9,Option.bind_some]
  rw [wrapI (n:=(s.instr c.1).1+6) (by omega) (by omega),c10,Ydu s cs (c.1,10+6,(s.instr c.1).2.1,0,-1) hb]
  simp only [Option.bind_some]
  rw [ron_r h r (s.tell (c.1,10+6,(s.instr c.1).2.1,0,-1)) rfl rfl]
  exact ⟨cs,hr,rfl⟩
 rw [if_neg c10]
 by_cases c11:(s.instr c.1).1=11
 ·rw [if_pos c11,bif_t (decide_eq_true (by omega))]
  simp only [Yd9,Option.bind_some]
  rw [wrapI (n:=(s.instr c.1).1+6) (by omega) (by omega),c11,Ydu s cs (c.1,11+6,(s.instr c.1).2.1,0,-1) hb]
  simp only [Option.bind_some]
  rw [ron_r h r (s.tell (c.1,11+6,(s.instr c.1).2.1,0,-1)) rfl rfl]
  exact ⟨cs,hr,rfl⟩
 rw [if_neg c11,bif_f (decide_eq_false (by have:=hi.1; omega)),Ycq h r (by have:=hi.1; omega)]
 refine ⟨cs,?_,rfl⟩
 split
 ·exact hr
 ·unfold MS.orElse; split <;> exact hr
theorem Y18 {α:Type} (l:List α) (p:α→Bool) {n:Nat} (h:n < l.length):(l.take (n+1)).any p=((l.take n).any p || p l[n]):=by
 rw [← List.take_append_getElem h,List.any_append]; simp
theorem Y14 {α:Type} (l:List α) (p:α→Bool) {n:Nat} (h:n < l.length):(l.take (n+1)).all p=((l.take n).all p && p l[n]):=by
 rw [← List.take_append_getElem h,List.all_append]; simp
theorem Ydp (s:MS) (cs:List Ch) (hl:s.gs.length ≤ 1000) (hg:∀ x ∈ s.gs,0 ≤ x.2.2.1∧x.2.2.1 ≤ 2):Z7d (s.w cs)=some (s.settle.w cs):=by
 have key:=Y83 (f:=Ze3) s.gs.length (fun n=>((s.gs.take n).any (fun x=>x.2.2.1 == 0),(s.gs.take n).all (fun x=>x.2.2.1 == 2),s.gs,(s.gs.length:Int),(n:Int),s.w cs,0,0,0,(0,0)))
  (s.gs.any (fun x=>x.2.2.1 == 0),s.gs.all (fun x=>x.2.2.1 == 2),s.w cs,0,0,0,(0,0)) (by
   intro n hn
   have hz:getAt ((0:Int),((0:Int),((0:Int),false))) s.gs (toN (n:Int))=s.gs[n]:=getAtL _ hn
   have e1:=Y18 s.gs (fun x=>x.2.2.1 == 0) hn
   have e2:=Y14 s.gs (fun x=>x.2.2.1 == 2) hn
   generalize (s.gs.take (n+1)).any (fun x=>x.2.2.1 == 0)=A1 at e1 ⊢
   generalize (s.gs.take (n+1)).all (fun x=>x.2.2.1 == 2)=A2 at e2 ⊢
   subst e1 e2
   unfold Ze3
   simp only [hz]
   rw [bif_t (decide_eq_true (by omega)),bif_t (Y6k hn),wrapI (by omega) (by omega)]
   cases (s.gs.take n).any (fun x=>x.2.2.1 == 0) <;> cases (s.gs.take n).all (fun x=>x.2.2.1 == 2) <;> rfl) (by
   unfold Ze3
   simp only
   rw [bif_f (decide_eq_false (by omega)),List.take_length]) 0 (Nat.zero_le _)
 unfold Z7d
 simp only
 rw [show loop Ze3 (false,true,s.gs,(s.gs.length:Int),0,s.w cs,0,0,0,(0,0))=_ from key]
 simp only [Option.bind_some]
 unfold MS.settle anyS
 by_cases c0:s.st=0
 ·rw [bif_f (by simpa using c0)]
  by_cases c1:(s.gs.any fun x=>x.2.2.1 == 0)=true
  ·rw [if_pos (.inr c1),bif_t c1]
  ·rw [if_neg (fun q=>q.elim (fun z=>z c0) c1),bif_f (Bool.eq_false_iff.2 c1)]
   by_cases c2:(s.gs.any fun x=>x.2.2.1 == 1)=true
   ·have:(s.gs.all fun x=>x.2.2.1 == 2)=false:=by
     obtain ⟨x,hx,e⟩:=List.any_eq_true.1 c2
     refine Bool.eq_false_iff.2 fun q=>?_
     have:=List.all_eq_true.1 q x hx
     have e:x.2.2.1=1:=by simpa using e
     have:x.2.2.1=2:=by simpa using this
     omega
    rw [if_pos c2,bif_f this]
   ·have:(s.gs.all fun x=>x.2.2.1 == 2)=true:=by
     refine List.all_eq_true.2 fun x hx=>?_
     have h0:x.2.2.1 ≠ 0:=fun e=>c1 (List.any_eq_true.2 ⟨x,hx,by simpa using e⟩)
     have h1:x.2.2.1 ≠ 1:=fun e=>c2 (List.any_eq_true.2 ⟨x,hx,by simpa using e⟩)
     have:=hg x hx
     have:x.2.2.1=2:=by omega
     simpa using this
    rw [if_neg c2,bif_t this]
 ·rw [if_pos (.inl c0),bif_t (by simpa using c0)]
theorem gi_st {cur:Int} (h:GI s cur):∀ x ∈ s.gs,0 ≤ x.2.2.1∧x.2.2.1 ≤ 2:=fun x hx=>⟨(h.gor x hx).2.2.2.2.1,(h.gor x hx).2.2.2.2.2.1⟩
theorem Yf4 (s:MS):s.settle.cs=s.cs:=by
 unfold MS.settle
 split
 ·rfl
 ·split <;> rfl
theorem Yf3 (s:MS):s.settle.L=s.L:=by
 unfold MS.settle
 split
 ·rfl
 ·split <;> rfl
theorem Ydq {cs:List Ch} (h:Good s cs) {c:Cho} (hc:c ∈ s.chs):∃ cs',RelCs cs' (s.step c).cs∧Z63 (s.w cs,c)=some ((s.step c).w cs',(s.step c).L):=by
 have hb:s.clear.Bd 100:=⟨by show 0+100 ≤ 900000; omega,h.ev.1,by show s.ev+100 ≤ 3000000; have:=h.ev.2; omega⟩
 have h0:=h.gi.clear
 have hc0:c ∈ s.clear.chs:=hc
 have hgi:=act_gi (s:=s.clear) h.rel h0 hc0 hb h.sent
 obtain ⟨cs',e1,e2⟩:=ract_x (s:=s.clear) h.rel h0 hc0 hb h.sent
 refine ⟨cs',by unfold MS.step; rw [Yf4]; exact e1,?_⟩
 unfold Z63
 simp only
 rw [show Z65 ((s.w cs,[]),c)=_ from e2]
 simp only [Option.bind_some]
 rw [Ydp (s.clear.act c) cs' (act_gl hgi) (gi_st hgi)]
 simp only [Option.bind_some]
 unfold MS.step
 rw [Yf3]
theorem Yca {α:Type} (n:Nat) (a:α):List.replicate n a++a :: []=List.replicate (n+1) a:=by
 rw [List.replicate_succ']
theorem rnew_x (p:Pg) (hp:RightP p):Z5x p=some ((MS.new p).w (p.1.map newC),[(0,0,0,0,-1)]):=by
 have hsz:=hp.sizes
 unfold Yfa at hsz
 simp only [Bool.and_eq_true,decide_eq_true_eq,Y6i] at hsz
 have k4:=Y83 (f:=Zd7) p.1.length (fun n=>(p.1,(p.1.length:Int),(n:Int),p,0,0,0,(0,0),p,(0,0),[((0:Int),((0:Int),((0:Int),false)))],(p.1.take n).map newC))
  (p,0,0,0,(0,0),p,(0,0),[((0:Int),((0:Int),((0:Int),false)))],p.1.map newC) (by
   intro n hn
   have hm:=hp.caps p.1[n] (List.getElem_mem hn)
   unfold Zd7
   simp only
   rw [bif_t (decide_eq_true (by omega)),bif_t (Y6k hn),Ygp,getAtL _ hn,Ycv _ hm.1 hm.2]
   simp only [Option.bind_some]
   rw [bif_t (Y5a.2 (by simp; omega)),wrapI (by omega) (by omega),show (p.1.take n).map newC++newC p.1[n] :: []=(p.1.take (n+1)).map newC by rw [← List.take_append_getElem hn,List.map_append]; rfl]
   rfl) (by
   unfold Zd7
   simp only
   rw [bif_f (decide_eq_false (by omega)),List.take_length]) 0 (Nat.zero_le _)
 have k9:=Y83 (f:=Zd9) p.2.1.toNat (fun n=>((n:Int),p,0,0,0,(0,0),p,(0,0),[((0:Int),((0:Int),((0:Int),false)))],p.1.map newC,List.replicate n (false,[])))
  (p,0,0,0,(0,0),p,(0,0),[((0:Int),((0:Int),((0:Int),false)))],p.1.map newC,List.replicate p.2.1.toNat (false,[])) (by
   intro n hn
   unfold Zd9
   simp only
   rw [bif_t (decide_eq_true (by omega)),bif_t (Y5a.2 (by simp; omega)),wrapI (by omega) (by omega),Yca]
   rfl) (by
   unfold Zd9
   simp only
   rw [bif_f (decide_eq_false (by omega))]) 0 (Nat.zero_le _)
 have k13:=Y83 (f:=Zd5) p.2.2.1.toNat (fun n=>((n:Int),p,0,0,0,(0,0),p,(0,0),[((0:Int),((0:Int),((0:Int),false)))],p.1.map newC,List.replicate p.2.1.toNat (false,[]),List.replicate n zeroO))
  (0,0,0,(0,0),p,(0,0),[((0:Int),((0:Int),((0:Int),false)))],p.1.map newC,List.replicate p.2.1.toNat (false,[]),List.replicate p.2.2.1.toNat zeroO) (by
   intro n hn
   unfold Zd5
   simp only
   rw [bif_t (decide_eq_true (by omega)),bif_t (Y5a.2 (by simp; omega)),wrapI (by omega) (by omega),show List.replicate n zeroO++(0,0,[]) :: []=List.replicate (n+1) zeroO from Yca n zeroO]
   rfl) (by
   unfold Zd5
   simp only
   rw [bif_f (decide_eq_false (by omega))]) 0 (Nat.zero_le _)
 unfold Z5x
 rw [show loop Zd7 (p.1,(p.1.length:Int),0,p,0,0,0,(0,0),p,(0,0),(0,0,0,false) :: [],[])=_ from k4]
 simp only [Option.bind_some]
 rw [show loop Zd9 (0,p,0,0,0,(0,0),p,(0,0),[((0:Int),((0:Int),((0:Int),false)))],p.1.map newC,[])=_ from k9]
 simp only [Option.bind_some]
 rw [show loop Zd5 (0,p,0,0,0,(0,0),p,(0,0),[((0:Int),((0:Int),((0:Int),false)))],p.1.map newC,List.replicate p.2.1.toNat (false,[]),[])=_ from k13]
 simp only [Option.bind_some,Yd9]
 have hb:(MS.new0 p).Bd 1:=⟨by show 0+1 ≤ 900000; omega,by show (0:Int) ≤ 0; omega,by show (0:Int)+1 ≤ 3000000; omega⟩
 rw [show Z7j (((p,[((0:Int),((0:Int),((0:Int),false)))],p.1.map newC,List.replicate p.2.1.toNat (false,[]),List.replicate p.2.2.1.toNat zeroO,(0,0)),[]),0,0,0,0,-1)=some (((MS.new0 p).tell (0,0,0,0,-1)).r (p.1.map newC)) from Ydu (MS.new0 p) (p.1.map newC) (0,0,0,0,-1) hb]
 simp only [Option.bind_some]
 rw [rto_x (g:=0) ((MS.new0 p).tell (0,0,0,0,-1)) (p.1.map newC) 0 ⟨by omega,by show (0:Int) < 1; omega⟩ (by show 1 ≤ 1000; omega) (by show (0:Int) ≤ 0; omega) (by show (0:Int) < (p.2.2.2.2.2.length:Int); omega) (by show (0:Int) ≤ ((List.length _:Nat):Int); omega)]
 simp only [Option.bind_some]
 have hgor:∀ x ∈ (((MS.new0 p).tell (0,0,0,0,-1)).to 0 0).gs,0 ≤ x.2.2.1∧x.2.2.1 ≤ 2:=by
  intro x hx
  have:x=gTo p (0,0,0,false) 0:=List.mem_singleton.1 hx
  rw [this]
  show 0 ≤ (if (0:Int)=_ then (2:Int) else 0)∧(if (0:Int)=_ then (2:Int) else 0) ≤ 2
  split <;> omega
 rw [Ydp (((MS.new0 p).tell (0,0,0,0,-1)).to 0 0) (p.1.map newC) (by show 1 ≤ 1000; omega) hgor]
 rfl
theorem Y9q {p:Pg} (hp:RightP p):RelCs (p.1.map newC) (MS.new p).cs:=by
 unfold MS.new
 rw [Yf4]
 refine ⟨by show _=(p.1.map AC.new).length; simp,fun k hk=>?_⟩
 have hk:k < p.1.length:=by have:k < (p.1.map AC.new).length:=hk; simpa using this
 have hm:=hp.caps _ (Y8z hk 0)
 have e1:(p.1.map newC).getD k zeroC=newC (p.1.getD k 0):=by simp [List.getD,hk]
 have e2:(p.1.map AC.new).getD k zA=AC.new (p.1.getD k 0):=by simp [List.getD,hk]
 show RelC _ ((p.1.map AC.new).getD k zA)
 rw [e1,e2]
 exact RelC.new hm.1 hm.2
theorem Ydc {cs:List Ch} (hr:RelCs cs s.cs) (h:GI s (-1)) {g:Int} (r:Rdy s g) (c4:(s.instr g).1=4):Z75 (s.w cs,g,selAt s.p (s.instr g).2.1)=some (s.rdyL g):=by
 have hsb:=Yem h r c4
 have hl4:=Yep h.rp (s.instr g).2.1
 let acc:Nat→List Cho:=fun n=>((List.range n).filter fun (k:Nat)=>(s.ch (caseAt s.p (s.instr g).2.1 (k:Int)).2).ready (caseAt s.p (s.instr g).2.1 (k:Int)).1 g).map fun (k:Nat)=>(g,(k:Int))
 have hacc:∀ n,(acc n).length ≤ n:=fun n=>by
  show (List.map _ _).length ≤ n
  rw [List.length_map]
  have:=List.length_filter_le (fun (k:Nat)=>(s.ch (caseAt s.p (s.instr g).2.1 (k:Int)).2).ready (caseAt s.p (s.instr g).2.1 (k:Int)).1 g) (List.range n)
  rw [List.length_range] at this; exact this
 have key:=Y83 (f:=Zdx) (selAt s.p (s.instr g).2.1).1.length (fun n=>(g,(selAt s.p (s.instr g).2.1).1,((selAt s.p (s.instr g).2.1).1.length:Int),(n:Int),s.w cs,acc n)) (acc (selAt s.p (s.instr g).2.1).1.length) (by
  intro n hn
  have hcz:(selAt s.p (s.instr g).2.1).1.getD n (false,0)=caseAt s.p (s.instr g).2.1 (n:Int):=rfl
  have hk:=Y2i h.rp hsb (k:=(n:Int)) (by omega)
  rw [← h.cl,← hr.1] at hk
  have hkn:(caseAt s.p (s.instr g).2.1 (n:Int)).2.toNat < s.cs.length:=by have:=hr.1; omega
  have hrel:=hr.2 _ hkn
  have hok2:=h.ch _ (Y8z hkn zA)
  have hch:=hrel.ok.2 hok2
  have hrr:readyC (cs.getD (caseAt s.p (s.instr g).2.1 (n:Int)).2.toNat zeroC) (caseAt s.p (s.instr g).2.1 (n:Int)).1 g=(s.ch (caseAt s.p (s.instr g).2.1 (n:Int)).2).ready (caseAt s.p (s.instr g).2.1 (n:Int)).1 g:=hrel.ready hok2 (caseAt s.p (s.instr g).2.1 (n:Int)).1 g
  unfold Zdx
  simp only [caz_eq,chz_eq,hcz]
  rw [bif_t (decide_eq_true (by omega)),bif_t (Y6k hn),bif_t (inbL.2 hk),Ydb _ _ _ hch,hrr,wrapI (by omega) (by omega)]
  simp only [Option.bind_some]
  have hs1:acc (n+1)=if (s.ch (caseAt s.p (s.instr g).2.1 (n:Int)).2).ready (caseAt s.p (s.instr g).2.1 (n:Int)).1 g=true then acc n++[(g,(n:Int))] else acc n:=by
   exact Y4v (fun (k:Nat)=>(s.ch (caseAt s.p (s.instr g).2.1 (k:Int)).2).ready (caseAt s.p (s.instr g).2.1 (k:Int)).1 g) (fun (k:Nat)=>(g,(k:Int))) n
  by_cases q:(s.ch (caseAt s.p (s.instr g).2.1 (n:Int)).2).ready (caseAt s.p (s.instr g).2.1 (n:Int)).1 g=true
  ·rw [if_pos q] at hs1
   rw [bif_t q,bif_t (Y5a.2 (by have:=hacc n; show (acc n).length+1 ≤ _; omega)),← hs1]; rfl
  ·rw [if_neg q] at hs1
   rw [bif_f (Bool.eq_false_iff.2 q),hs1]; rfl) (by
  unfold Zdx
  simp only
  rw [bif_f (decide_eq_false (by omega))]) 0 (Nat.zero_le _)
 unfold Z75
 simp only
 rw [show loop Zdx (g,(selAt s.p (s.instr g).2.1).1,((selAt s.p (s.instr g).2.1).1.length:Int),0,s.w cs,[])=_ from key]
 simp only [Option.bind_some]
 unfold MS.rdyL
 rw [if_neg (fun q=>q c4)]
theorem Ybp {cs:List Ch} (hr:RelCs cs s.cs) (h:GI s (-1)):Z5t (s.w cs)=some s.chs:=by
 have hgl:=h.gl
 let acc:Nat→List Cho:=fun n=>if s.st ≠ 0 then [] else (List.range n).flatMap fun (g:Nat)=>s.choG (g:Int)
 have hacc:∀ n,(acc n).length ≤ 4 * n:=by
  intro n
  show (if s.st ≠ 0 then [] else (List.range n).flatMap fun (g:Nat)=>s.choG (g:Int)).length ≤ _
  split
  ·exact Nat.zero_le _
  ·induction n with
   | zero=>exact Nat.le_refl _
   | succ n ih =>
    rw [List.range_succ,List.flatMap_append,List.length_append]
    have:=Y2s h (n:Int)
    simp only [List.flatMap_cons,List.flatMap_nil,List.append_nil]
    omega
 have key:=Y83 (f:=Zd1) s.gs.length (fun n=>(s.gs,(s.gs.length:Int),(n:Int),s.w cs,acc n)) (acc s.gs.length) (by
  intro n hn
  have ha:=hacc n
  unfold Zd1
  simp only [gAt_eq]
  rw [bif_t (decide_eq_true (by omega)),bif_t (Y6k hn),wrapI (by omega) (by omega)]
  by_cases c0:s.st=0
  ·rw [bif_f (show (s.st != 0)=false by rw [c0]; rfl)]
   have hs1:acc (n+1)=acc n++s.choG (n:Int):=by
    show (if s.st ≠ 0 then [] else (List.range (n+1)).flatMap fun (g:Nat)=>s.choG (g:Int))=(if s.st ≠ 0 then [] else (List.range n).flatMap fun (g:Nat)=>s.choG (g:Int))++_
    rw [if_neg (fun q=>q c0),if_neg (fun q=>q c0),List.range_succ,List.flatMap_append]
    simp
   by_cases c1:(s.g (n:Int)).2.2.1=0
   ·rw [bif_f (show ((gAt s.gs (n:Int)).2.2.1 != 0)=false by rw [show (gAt s.gs (n:Int)).2.2.1=0 from c1]; rfl)]
    have r:Rdy s (n:Int):=⟨⟨by omega,by omega⟩,c1⟩
    rw [Ycp (g:=(n:Int)) s cs r.hg (h.gok r.hg) (by omega)]
    simp only [Option.bind_some]
    have hl:=Ybs h (n:Int)
    by_cases c4:(s.instr (n:Int)).1=4
    ·have hsb:=Yem h r c4
     rw [bif_t (by simpa using c4),bif_t (inbL.2 hsb),sel_eq,Ydc hr h r c4]
     simp only [Option.bind_some]
     by_cases c2:s.rdyL (n:Int)=[]
     ·have hc:s.choG (n:Int)=[((n:Int),-1)]:=by unfold MS.choG; rw [if_neg (fun q=>q c1),if_pos c2]
      rw [c2,bif_t (by rfl),bif_t (Y5a.2 (by show 0+1 ≤ _; omega)),bif_t (Y5a.2 (by show (acc n).length+1 ≤ _; omega)),hs1,hc]; rfl
     ·have hc:s.choG (n:Int)=s.rdyL (n:Int):=by unfold MS.choG; rw [if_neg (fun q=>q c1),if_neg c2]
      have:¬ (s.rdyL (n:Int)).length=0:=fun q=>c2 (List.eq_nil_of_length_eq_zero q)
      rw [bif_f (by simp; omega),bif_t (Y5a.2 (by omega)),hs1,hc]; rfl
    ·have hc:s.choG (n:Int)=[((n:Int),-1)]:=by
      unfold MS.choG
      rw [if_neg (fun q=>q c1),if_pos]
      unfold MS.rdyL
      rw [if_pos c4]
     rw [bif_f (by simpa using c4),bif_t (Y5a.2 (by show (acc n).length+1 ≤ _; omega)),hs1,hc]; rfl
   ·have hc:s.choG (n:Int)=[]:=by unfold MS.choG; rw [if_pos c1]
    rw [bif_t (show ((gAt s.gs (n:Int)).2.2.1 != 0)=true from bne_iff_ne.2 c1),hs1,hc,List.append_nil]; rfl
  ·rw [bif_t (show (s.st != 0)=true from bne_iff_ne.2 c0)]
   have e:∀ m,acc m=[]:=fun m=>if_pos c0
   rw [e,e]; rfl) (by
  unfold Zd1
  simp only
  rw [bif_f (decide_eq_false (by omega))]) 0 (Nat.zero_le _)
 unfold Z5t
 simp only
 have h0:acc 0=[]:=by show (if s.st ≠ 0 then [] else [])=[]; split <;> rfl
 rw [show ((0:Nat):Int)=0 from rfl,h0] at key
 rw [key]
 rfl
end
end Go.Proofs.YthdlpkdojipfhaaGreat.VX.VxM_M
set_option linter.unusedVariables false
set_option linter.unusedSimpArgs false
namespace Go.Proofs.YthdlpkdojipfhaaGreat.VX.VxM_M
open Go.Proofs
theorem Y6y (l:List In) (hl:l.length < 1000):Z4d (l,l)=some true:=by
 have key:=Y83 (f:=Zcd) l.length (fun k=>(l,l,(l.length:Int),(k:Int))) (.inr ()) (fun k hk=>by
  unfold Zcd
  simp only
  rw [bif_t (decide_eq_true (by omega)),bif_t (Y6k hk),bif_t (Y6k hk),bif_f (by simp),wrapI (by omega) (by omega)]; rfl) (by
  unfold Zcd
  simp only
  rw [bif_f (decide_eq_false (by omega))]) 0 (Nat.zero_le _)
 unfold Z4d
 simp only
 rw [bif_f (by simp),show loop Zcd (l,l,(l.length:Int),0)=_ from key]
 rfl
theorem Yeo (l:List Sl) (hl:l.length < 1000) (h:∀ s ∈ l,s.1.length < 1000):Z4p (l,l)=some true:=by
 have key:=Y83 (f:=Zcp) l.length (fun k=>(l,l,(l.length:Int),(k:Int))) (.inr ()) (fun k hk=>by
  have hz:getAt (([]:List Cs),false) l (toN (k:Int))=l[k]:=getAtL _ hk
  have hm:=h _ (List.getElem_mem hk)
  have k2:=Y83 (f:=Zcn) l[k].1.length (fun j=>(l,l,(k:Int),(l.length:Int),(k:Int),(l[k].1.length:Int),(j:Int))) (.inr (l,l,(l.length:Int),(k:Int))) (fun j hj=>by
   unfold Zcn
   simp only [hz]
   rw [bif_t (decide_eq_true (by omega)),bif_t (Y6k hk),bif_t (Y6k hj),bif_t (Y6k hk),bif_t (Y6k hj),bif_f (by simp),wrapI (by omega) (by omega)]; rfl) (by
   unfold Zcn
   simp only
   rw [bif_f (decide_eq_false (by omega))]) 0 (Nat.zero_le _)
  unfold Zcp
  simp only [hz]
  rw [bif_t (decide_eq_true (by omega)),bif_t (Y6k hk),bif_t (Y6k hk),bif_f (by simp),bif_t (Y6k hk),bif_t (Y6k hk),bif_f (by simp),bif_t (Y6k hk),show loop Zcn (l,l,(k:Int),(l.length:Int),(k:Int),(l[k].1.length:Int),0)=_ from k2]
  simp only [Option.bind_some]
  rw [wrapI (by omega) (by omega)]; rfl) (by
  unfold Zcp
  simp only
  rw [bif_f (decide_eq_false (by omega))]) 0 (Nat.zero_le _)
 unfold Z4p
 simp only
 rw [bif_f (by simp),show loop Zcp (l,l,(l.length:Int),0)=_ from key]
 rfl
theorem Yb2 (p:Pg) (hs:small p):Z4h (p,p)=some true:=by
 obtain ⟨s1,s2,s3,s4,s5⟩:=hs
 have k5:=Y83 (f:=Zch) p.1.length (fun k=>((p.1.length:Int),(k:Int),p,p)) (.inr (p,p)) (fun k hk=>by
  unfold Zch
  simp only
  rw [bif_t (decide_eq_true (by omega)),bif_t (Y6k hk),bif_t (Y6k hk),bif_f (by simp),wrapI (by omega) (by omega)]; rfl) (by
  unfold Zch
  simp only
  rw [bif_f (decide_eq_false (by omega))]) 0 (Nat.zero_le _)
 have k11:=Y83 (f:=Zcf) p.2.2.2.2.2.length (fun k=>((p.2.2.2.2.2.length:Int),(k:Int),p,p)) (.inr ()) (fun k hk=>by
  have hz:getAt ([]:List In) p.2.2.2.2.2 (toN (k:Int))=p.2.2.2.2.2[k]:=getAtL _ hk
  unfold Zcf
  simp only [hz]
  rw [bif_t (decide_eq_true (by omega)),bif_t (Y6k hk),bif_t (Y6k hk),Y6y _ (s5 _ (List.getElem_mem hk)),wrapI (by omega) (by omega)]; rfl) (by
  unfold Zcf
  simp only
  rw [bif_f (decide_eq_false (by omega))]) 0 (Nat.zero_le _)
 unfold Z4h
 simp only
 rw [bif_f (by simp),bif_f (by simp),bif_f (by simp),bif_f (by simp),Yeo _ s2 s4]
 simp only [Option.bind_some]
 rw [bif_f (by rfl),bif_f (by simp),show loop Zch ((p.1.length:Int),0,p,p)=_ from k5]
 simp only [Option.bind_some]
 rw [show loop Zcf ((p.2.2.2.2.2.length:Int),0,p,p)=_ from k11]
 rfl
theorem Y69 (l:List Gor) (hl:l.length < 1000):Z6l (l,l)=some true:=by
 have key:=Y83 (f:=Zdp) l.length (fun k=>(l,l,(l.length:Int),(k:Int))) (.inr ()) (fun k hk=>by
  unfold Zdp
  simp only
  rw [bif_t (decide_eq_true (by omega)),bif_t (Y6k hk),bif_t (Y6k hk),bif_f (by simp),wrapI (by omega) (by omega)]; rfl) (by
  unfold Zdp
  simp only
  rw [bif_f (decide_eq_false (by omega))]) 0 (Nat.zero_le _)
 unfold Z6l
 simp only
 rw [bif_f (by simp),show loop Zdp (l,l,(l.length:Int),0)=_ from key]
 rfl
theorem Y4j (l:List Ev) (hl:l.length ≤ 4294967296):Z5v (l,l)=some true:=by
 have key:=Y83 (f:=Zd3) l.length (fun k=>(l,l,(l.length:Int),(k:Int))) (.inr ()) (fun k hk=>by
  unfold Zd3
  simp only
  rw [bif_t (decide_eq_true (by omega)),bif_t (Y6k hk),bif_t (Y6k hk),bif_f (by simp),wrapI (by omega) (by omega)]; rfl) (by
  unfold Zd3
  simp only
  rw [bif_f (decide_eq_false (by omega))]) 0 (Nat.zero_le _)
 unfold Z5v
 simp only
 rw [bif_f (by simp),show loop Zd3 (l,l,(l.length:Int),0)=_ from key]
 rfl
theorem Yd6 (l:List Cho) (hl:l.length ≤ 4294967296):Z5z (l,l)=some true:=by
 have key:=Y83 (f:=Zdb) l.length (fun k=>(l,l,(l.length:Int),(k:Int))) (.inr ()) (fun k hk=>by
  unfold Zdb
  simp only
  rw [bif_t (decide_eq_true (by omega)),bif_t (Y6k hk),bif_t (Y6k hk),bif_f (by simp),wrapI (by omega) (by omega)]; rfl) (by
  unfold Zdb
  simp only
  rw [bif_f (decide_eq_false (by omega))]) 0 (Nat.zero_le _)
 unfold Z5z
 simp only
 rw [bif_f (by simp),show loop Zdb (l,l,(l.length:Int),0)=_ from key]
 rfl
theorem Yhe (p:Pg) (hs:small p) (gs:List Gor) (hg:gs.length < 1000) (cs cs':List Ch) (hcl:cs.length=cs'.length) (hc1:cs.length < 1000) (hc:∀ k,k < cs.length→Z57 (cs.getD k zeroC,cs'.getD k zeroC)=some true)
  (ls:List Lk) (hl:ls.length < 1000) (hl2:∀ l ∈ ls,l.2.length < 1000) (os:List On) (ho:os.length < 1000) (ho2:∀ o ∈ os,o.2.2.length < 1000) (a b:Int) :
  Z61 ((p,gs,cs,ls,os,a,b),(p,gs,cs',ls,os,a,b))=some true:=by
 have k5:=Y83 (f:=Zdh) cs.length (fun k=>((cs.length:Int),(k:Int),(p,gs,cs,ls,os,a,b),(p,gs,cs',ls,os,a,b))) (.inr ((p,gs,cs,ls,os,a,b),(p,gs,cs',ls,os,a,b))) (fun k hk=>by
  have h1:=hc k hk
  unfold Zdh
  simp only [chz_eq]
  rw [bif_t (decide_eq_true (by omega)),bif_t (Y6k hk),bif_t (Y6k (by omega)),show Z57 (cs.getD (k:Int).toNat zeroC,cs'.getD (k:Int).toNat zeroC)=some true from h1,wrapI (by omega) (by omega)]; rfl) (by
  unfold Zdh
  simp only
  rw [bif_f (decide_eq_false (by omega))]) 0 (Nat.zero_le _)
 have k11:=Y83 (f:=Zdd) ls.length (fun k=>((ls.length:Int),(k:Int),(p,gs,cs,ls,os,a,b),(p,gs,cs',ls,os,a,b))) (.inr ((p,gs,cs,ls,os,a,b),(p,gs,cs',ls,os,a,b))) (fun k hk=>by
  have hz:getAt (false,([]:List W)) ls (toN (k:Int))=ls[k]:=getAtL _ hk
  have h2:=hl2 _ (List.getElem_mem hk)
  unfold Zdd
  simp only [hz]
  rw [bif_t (decide_eq_true (by omega)),bif_t (Y6k hk),bif_t (Y6k hk),Y7j _ (by omega),wrapI (by omega) (by omega)]; rfl) (by
  unfold Zdd
  simp only
  rw [bif_f (decide_eq_false (by omega))]) 0 (Nat.zero_le _)
 have k17:=Y83 (f:=Zdf) os.length (fun k=>((os.length:Int),(k:Int),(p,gs,cs,ls,os,a,b),(p,gs,cs',ls,os,a,b))) (.inr ()) (fun k hk=>by
  have hz:getAt ((0:Int),((0:Int),([]:List W))) os (toN (k:Int))=os[k]:=getAtL _ hk
  have h2:=ho2 _ (List.getElem_mem hk)
  unfold Zdf
  simp only [hz]
  rw [bif_t (decide_eq_true (by omega)),bif_t (Y6k hk),bif_t (Y6k hk),Ya2 _ (by omega),wrapI (by omega) (by omega)]; rfl) (by
  unfold Zdf
  simp only
  rw [bif_f (decide_eq_false (by omega))]) 0 (Nat.zero_le _)
 unfold Z61
 simp only
 rw [bif_f (by simp),bif_f (by simp),Y69 gs hg]
 simp only [Option.bind_some]
 rw [bif_f (by rfl),Yb2 p hs]
 simp only [Option.bind_some]
 rw [bif_f (by rfl),bif_f (by rw [hcl]; simp),bif_f (by simp),bif_f (by simp),show loop Zdh ((cs.length:Int),0,(p,gs,cs,ls,os,a,b),(p,gs,cs',ls,os,a,b))=_ from k5]
 simp only [Option.bind_some]
 rw [show loop Zdd ((ls.length:Int),0,(p,gs,cs,ls,os,a,b),(p,gs,cs',ls,os,a,b))=_ from k11]
 simp only [Option.bind_some]
 rw [show loop Zdf ((os.length:Int),0,(p,gs,cs,ls,os,a,b),(p,gs,cs',ls,os,a,b))=_ from k17]
 rfl
theorem Ycl {p:Pg} (hp:RightP p):small p:=by
 have hsz:=hp.sizes
 unfold Yfa at hsz
 simp only [Bool.and_eq_true,decide_eq_true_eq,Y6i] at hsz
 exact ⟨by omega,by omega,by omega,fun s hs=>by have:=(hp.sels s hs).1; omega,fun b hb=>by have:=(hp.blks b hb).1; omega⟩
theorem Y6a {s:MS} {cs cs':List Ch} (h:GI s (-1)) (h1:RelCs cs s.cs) (h2:RelCs cs' s.cs):Z61 (s.w cs,s.w cs')=some true:=by
 have hgl:=h.gl
 have hcap:=Y2h h.rp
 have hcl:=h.cl
 have hlk:=lk_len h.rp
 have hll:=h.ll
 have hol:=h.ol
 have hsz:=h.rp.sizes
 unfold Yfa at hsz
 simp only [Bool.and_eq_true,decide_eq_true_eq,Y6i] at hsz
 refine Yhe s.p (Ycl h.rp) s.gs (by omega) cs cs' (h1.1.trans h2.1.symm) (by rw [h1.1]; omega) (fun k hk=>?_) s.ls (by omega) (fun l hl=>by have:=(h.lok l hl).1.2.1; omega) s.os (by omega) (fun o ho=>by have:=(h.ook o ho).2.1.2.1; omega) s.ev s.st
 have hk':k < s.cs.length:=by rw [← h1.1]; exact hk
 have hok:=h.ch _ (Y8z hk' zA)
 have r1:=h1.2 k hk'
 have r2:=h2.2 k hk'
 refine Yef (r1.same r2) ?_ ?_
 ·rw [r1.sends]; have:=hok.sw.2.1; omega
 ·rw [r1.recvs]; have:=hok.rw.2.1; omega
theorem zsame:Z61 (zeroWT,zeroWT)=some true :=
 Yhe zeroP ⟨by decide,by decide,by decide,fun s hs=>(by cases hs),fun b hb=>(by cases hb)⟩ [] (by decide) [] [] rfl (by decide) (fun k hk=>(by cases hk)) [] (by decide) (fun l hl=>(by cases hl)) [] (by decide) (fun l hl=>(by cases hl)) 0 0
end Go.Proofs.YthdlpkdojipfhaaGreat.VX.VxM_M
set_option linter.unusedVariables false
set_option linter.unusedSimpArgs false
namespace Go.Proofs.YthdlpkdojipfhaaGreat.VX.VxM_M
open Go.Proofs
def fewP (p:Pg):Pg:=(p.1.take 6,p.2.1,p.2.2.1,p.2.2.2.1,(p.2.2.2.2.1.take 6).map (fun s=>(s.1.take 6,s.2)),(p.2.2.2.2.2.take 8).map (fun b=>b.take 30))
theorem cutm {α:Type} (l:List α) (k:Nat):cut l (toN 0) ((toN (Min.min ((l.length:Nat):Int) (k:Int))) - toN 0)=l.take k:=by
 unfold cut toN
 simp only [Int.toNat_zero,List.drop_zero,Nat.sub_zero]
 by_cases h:l.length ≤ k
 ·rw [show min ((l.length:Nat):Int) (k:Int)=l.length by omega,List.take_of_length_le h]; simp
 ·rw [show min ((l.length:Nat):Int) (k:Int)=k by omega]; simp
theorem few_x (p:Pg):Z3t p=some (fewP p):=by
 have c1:=cutm p.1 6
 have c2:=cutm p.2.2.2.2.1 6
 have c3:=cutm p.2.2.2.2.2 8
 have l1:(p.2.2.2.2.1.take 6).length ≤ 6:=by simp; omega
 have l2:(p.2.2.2.2.2.take 8).length ≤ 8:=by simp; omega
 generalize hS:p.2.2.2.2.1.take 6=S at *
 generalize hB:p.2.2.2.2.2.take 8=B at *
 have k5:=Y83 (f:=Zbz) S.length (fun n=>(S,(S.length:Int),(n:Int),(p.1.take 6,p.2),0,0,0,(S.take n).map (fun s=>(s.1.take 6,s.2)))) ((p.1.take 6,p.2),0,0,0,S.map (fun s=>(s.1.take 6,s.2))) (fun n hn=>by
  have hz:getAt (([]:List Cs),false) S (toN (n:Int))=S[n]:=getAtL _ hn
  have hc:=cutm S[n].1 6
  unfold Zbz
  simp only [hz]
  rw [bif_t (decide_eq_true (by omega)),bif_t (Y6k hn),bif_t (sub3L.2 ⟨by omega,by omega,by omega⟩),bif_t (Y5a.2 (by simp; omega)),wrapI (by omega) (by omega),show cut S[n].1 (toN 0) ((toN (Min.min ((S[n].1.length:Nat):Int) 6)) - toN 0)=S[n].1.take 6 from hc,show (S.take n).map (fun s=>(s.1.take 6,s.2))++(S[n].1.take 6,S[n].2) :: []=(S.take (n+1)).map (fun s=>(s.1.take 6,s.2)) by rw [← List.take_append_getElem hn,List.map_append]; rfl]
  rfl) (by
  unfold Zbz
  simp only
  rw [bif_f (decide_eq_false (by omega)),List.take_length]) 0 (Nat.zero_le _)
 have k12:=Y83 (f:=Zbx) B.length (fun n=>(B,(B.length:Int),(n:Int),(p.1.take 6,p.2),0,0,0,S.map (fun s=>(s.1.take 6,s.2)),(B.take n).map (fun b=>b.take 30))) ((p.1.take 6,p.2),0,0,0,S.map (fun s=>(s.1.take 6,s.2)),B.map (fun b=>b.take 30)) (fun n hn=>by
  have hz:getAt ([]:List In) B (toN (n:Int))=B[n]:=getAtL _ hn
  have hc:=cutm B[n] 30
  unfold Zbx
  simp only [hz]
  rw [bif_t (decide_eq_true (by omega)),bif_t (Y6k hn),bif_t (sub3L.2 ⟨by omega,by omega,by omega⟩),bif_t (Y5a.2 (by simp; omega)),wrapI (by omega) (by omega),show cut B[n] (toN 0) ((toN (Min.min ((B[n].length:Nat):Int) 30)) - toN 0)=B[n].take 30 from hc,show (B.take n).map (fun b=>b.take 30)++B[n].take 30 :: []=(B.take (n+1)).map (fun b=>b.take 30) by rw [← List.take_append_getElem hn,List.map_append]; rfl]
  rfl) (by
  unfold Zbx
  simp only
  rw [bif_f (decide_eq_false (by omega)),List.take_length]) 0 (Nat.zero_le _)
 unfold Z3t
 rw [bif_t (sub3L.2 ⟨by omega,by omega,by omega⟩),bif_t (sub3L.2 ⟨by omega,by omega,by omega⟩)]
 rw [show cut p.2.2.2.2.1 (toN 0) (toN (Min.min ((p.2.2.2.2.1.length:Nat):Int) 6) - toN 0)=S from c2,show cut p.1 (toN 0) (toN (Min.min ((p.1.length:Nat):Int) 6) - toN 0)=p.1.take 6 from c1]
 rw [show loop Zbz (S,(S.length:Int),0,(p.1.take 6,p.2),0,0,0,[])=_ from k5]
 simp only [Option.bind_some]
 rw [bif_t (sub3L.2 ⟨by omega,by omega,by omega⟩),show cut p.2.2.2.2.2 (toN 0) (toN (Min.min ((p.2.2.2.2.2.length:Nat):Int) 8) - toN 0)=B from c3]
 rw [show loop Zbx (B,(B.length:Int),0,(p.1.take 6,p.2),0,0,0,S.map (fun s=>(s.1.take 6,s.2)),[])=_ from k12]
 simp only [Option.bind_some]
 unfold fewP
 rw [hS,hB]
theorem Y4p (p:Pg):small (fewP p):=by
 unfold fewP
 refine ⟨by simp; omega,by simp; omega,by simp; omega,fun s hs=>?_,fun b hb=>?_⟩
 ·obtain ⟨t,_,e⟩:=List.mem_map.1 hs
  rw [← e]; simp; omega
 ·obtain ⟨t,_,e⟩:=List.mem_map.1 hb
  rw [← e]; simp; omega
theorem Yhb (n:Int):0 ≤ IntKind.wrap .u64 n:=by
 unfold IntKind.wrap
 simp only [IntKind.signed,Bool.false_eq_true,if_false]
 exact Int.emod_nonneg _ (by decide)
theorem Yha {n:Int} (h0:0 ≤ n) (h1:n < 18446744073709551616):IntKind.wrap .u64 n=n:=by
 unfold IntKind.wrap
 simp only [IntKind.signed,Bool.false_eq_true,if_false]
 exact Int.emod_eq_of_lt h0 h1
theorem pick_x (l:List Cho) (v:Int) (h:l ≠ []) (hl:l.length ≤ 1000):∃ c,c ∈ l∧Z3x (l,v)=some c:=by
 have hp:0 < l.length:=List.length_pos_iff.2 h
 have hv:=Yhb v
 have hw:IntKind.wrap .u64 (l.length:Int)=l.length:=Yha (by omega) (by omega)
 have h0:0 ≤ Int.tmod (IntKind.wrap .u64 v) (l.length:Int):=Int.tmod_nonneg _ hv
 have h1:Int.tmod (IntKind.wrap .u64 v) (l.length:Int) < l.length:=Int.tmod_lt_of_pos _ (by omega)
 unfold Z3x
 simp only
 rw [hw,bif_t (bne_iff_ne.2 (by omega)),wrapI (n:=Int.tmod (IntKind.wrap .u64 v) (l.length:Int)) (by omega) (by omega),bif_t (inbL.2 ⟨h0,h1⟩)]
 refine ⟨_,?_,rfl⟩
 rw [Y61]
 exact Y8z (by unfold toN; omega) _
theorem zsame2:Z61 (zeroWT,([],0,0,0,[],[]),[],[],[],[],0,0)=some true:=zsame
def pp:Pg:=([0],0,0,0,[],[[(9,1,0),(2,0,0)],[(1,0,0)]])
theorem Yb1:RightP pp:=(Yck pp).1 (by decide)
def p1:MS:=(MS.new pp).step (0,-1)
def p2:MS:=p1.step (0,-1)
def p3:MS:=p2.step (1,-1)
theorem p3_st:p3.st=1:=rfl
theorem Y13:Z3r ()=some true:=by
 obtain ⟨cs0,h1,h2⟩:=new_x pp (Ycl Yb1)
 rw [if_pos ((Yck pp).2 Yb1)] at h2
 have g0:=Y9p Yb1 (h1 Yb1)
 obtain ⟨cs1,g1,e1⟩:=g0.step (by omega) (c:=(0,-1)) (by decide)
 obtain ⟨cs2,g2,e2⟩:=g1.step (by omega) (c:=(0,-1)) (by decide)
 obtain ⟨cs3,g3,e3⟩:=g2.step (by omega) (c:=(1,-1)) (by decide)
 have e1:Z1a ((MS.new pp).w cs0,0,-1)=some (p1.w cs1,[(0,1,1,0,-1),(1,0,0,0,1)],0):=e1
 have e2:Z1a (p1.w cs1,0,-1)=some (p2.w cs2,[(0,4,0,0,-1)],0):=e2
 have e3:Z1a (p2.w cs2,1,-1)=some (p3.w cs3,[(1,2,0,0,-1),(0,5,0,0,3),(1,3,0,0,4)],0):=e3
 let K:List Int:=[0,1,0,4,2,5,3]
 let L:List Ev:=[(0,0,0,0,-1),(0,1,1,0,-1),(1,0,0,0,1),(0,4,0,0,-1),(1,2,0,0,-1),(0,5,0,0,3),(1,3,0,0,4)]
 have k5:loop Zbv ([(0,0,0,0,-1)],0,3,0,(MS.new pp).w cs0,K,[0,0,1])=some (.inr (L,0,p3.w cs3,K)):=by
  rw [Y84]
  have f1:Zbv ([(0,0,0,0,-1)],0,3,0,(MS.new pp).w cs0,K,[0,0,1])=some (.inl ([(0,0,0,0,-1),(0,1,1,0,-1),(1,0,0,0,1)],0,3,1,p1.w cs1,K,[0,0,1])):=by
   unfold Zbv
   simp only
   rw [bif_t (by rfl),bif_t (by rfl),neg1,show Z1a ((MS.new pp).w cs0,getAt 0 [0,0,1] (toN 0),-1)=_ from e1]
   rfl
  have f2:Zbv ([(0,0,0,0,-1),(0,1,1,0,-1),(1,0,0,0,1)],0,3,1,p1.w cs1,K,[0,0,1])=some (.inl ([(0,0,0,0,-1),(0,1,1,0,-1),(1,0,0,0,1),(0,4,0,0,-1)],0,3,2,p2.w cs2,K,[0,0,1])):=by
   unfold Zbv
   simp only
   rw [bif_t (by rfl),bif_t (by rfl),neg1,show Z1a (p1.w cs1,getAt 0 [0,0,1] (toN 1),-1)=_ from e2]
   rfl
  have f3:Zbv ([(0,0,0,0,-1),(0,1,1,0,-1),(1,0,0,0,1),(0,4,0,0,-1)],0,3,2,p2.w cs2,K,[0,0,1])=some (.inl (L,0,3,3,p3.w cs3,K,[0,0,1])):=by
   unfold Zbv
   simp only
   rw [bif_t (by rfl),bif_t (by rfl),neg1,show Z1a (p2.w cs2,getAt 0 [0,0,1] (toN 2),-1)=_ from e3]
   rfl
  rw [f1]
  simp only
  rw [Y84,f2]
  simp only
  rw [Y84,f3]
  simp only
  rw [Y84]
  rfl
 have k15:loop Zbt (L,7,0,K)=some (.inr ()):=by
  have:=Y83 (f:=Zbt) 7 (fun n=>(L,7,(n:Int),K)) (.inr ()) (fun n hn=>by
   unfold Zbt
   simp only
   rcases (by omega:n=0 ∨ n=1 ∨ n=2 ∨ n=3 ∨ n=4 ∨ n=5 ∨ n=6) with h | h | h | h | h | h | h <;> subst h <;> rfl) (by rfl) 0 (Nat.zero_le _)
  exact this
 unfold Z3r
 rw [show Z3v ()=some pp from rfl]
 simp only [Option.bind_some]
 rw [h2]
 simp only [Option.bind_some]
 rw [show loop Zbv ([(0,0,0,0,-1)],0,(([0,0,1]:List Int).length:Int),0,(MS.new pp).w cs0,[0,1,0,4,2,5,3],[0,0,1])=some (.inr (L,0,p3.w cs3,K)) from k5]
 simp only [Option.bind_some]
 rw [bif_f (by rfl),bif_f (by rfl),p3_st,bif_f (by rfl),show loop Zbt (L,(L.length:Int),0,K)=some (.inr ()) from k15]
 rfl
theorem Y2u {l:List Cho} (c:Cho) (hl:l.length ≤ 1000) (v:Int) (ps:List Int) (n:Int) (i:Int) (w w':WT) :
  loop Zbr (v,l,false,ps,n,i,l,(l.length:Int),0,c,w,w')=some (v,l,tB (c ∈ l),ps,n,i,c,w,w'):=by
 have key:=Y83 (f:=Zbr) l.length (fun k=>(v,l,(l.take k).any (fun x=>x.1 == c.1 && x.2 == c.2),ps,n,i,l,(l.length:Int),(k:Int),c,w,w')) (v,l,l.any (fun x=>x.1 == c.1 && x.2 == c.2),ps,n,i,c,w,w') (by
  intro k hk
  have hz:getAt ((0:Int),(0:Int)) l (toN (k:Int))=l[k]:=getAtL _ hk
  have e1:=Y18 l (fun x=>x.1 == c.1 && x.2 == c.2) hk
  generalize (l.take (k+1)).any (fun x=>x.1 == c.1 && x.2 == c.2)=A1 at e1 ⊢
  subst e1
  unfold Zbr
  simp only [hz]
  rw [bif_t (decide_eq_true (by omega)),bif_t (Y6k hk),wrapI (by omega) (by omega)]
  cases (l.take k).any (fun x=>x.1 == c.1 && x.2 == c.2) <;> rfl) (by
  unfold Zbr
  simp only
  rw [bif_f (decide_eq_false (by omega)),List.take_length]) 0 (Nat.zero_le _)
 have hm:(l.any fun x=>x.1 == c.1 && x.2 == c.2)=tB (c ∈ l):=by
  refine tB_iff ?_
  rw [List.any_eq_true]
  constructor
  ·rintro ⟨x,hx,e⟩
   rw [Bool.and_eq_true] at e
   have:x=c:=Prod.ext (by simpa using e.1) (by simpa using e.2)
   rw [← this]; exact hx
  ·intro hx
   exact ⟨c,hx,by simp⟩
 rw [hm] at key
 exact key
theorem GoodN.both {n:Nat} {s:MS} {cs cs':List Ch} (h:GoodN n s cs) (hr:RelCs cs' s.cs):GoodN n s cs':=⟨hr,h.gi,h.ev,h.sent⟩
theorem Yg0 {n:Nat} {s:MS} {cs:List Ch} (h:GoodN n s cs) {c:Cho} (hc:c ∈ s.chs):(s.step c).L.length ≤ 70:=by
 obtain ⟨e,e1,e2,e3⟩:=(Yg1 h.gi hc).L
 rw [e1]
 show ([]++e).length ≤ 70
 simpa using e2
theorem Yg4 {n:Nat} {s:MS} {cs cs':List Ch} (h:GoodN n s cs) (hr:RelCs cs' s.cs) (hn:n ≤ 1000) (hne:s.chs ≠ []) (v:Int) :
  ∃ c cs1 cs2,c ∈ s.chs∧GoodN (n+1) (s.step c) cs1∧RelCs cs2 (s.step c).cs∧Z3x (s.chs,v)=some c∧Z1a (s.w cs,c)=some ((s.step c).w cs1,(s.step c).L,0) ∧
   Z63 (s.w cs',c)=some ((s.step c).w cs2,(s.step c).L)∧Z61 ((s.step c).w cs1,(s.step c).w cs2)=some true∧Z5v ((s.step c).L,(s.step c).L)=some true:=by
 obtain ⟨c,hc,e⟩:=pick_x s.chs v hne (by have:=Y2v h.gi; omega)
 obtain ⟨cs1,g1,e1⟩:=h.step hn hc
 obtain ⟨cs2,r2,e2⟩:=Ydq ((h.both hr).good hn) hc
 exact ⟨c,cs1,cs2,hc,g1,r2,e,e1,e2,Y6a g1.gi g1.rel r2,Y4j _ (by have:=Yg0 h hc; omega)⟩
theorem Ydg (p:Pg) (hs:small p):Z4f p=some (decide (rightP p)):=by
 unfold Z4f
 rw [Ye8 p hs]
 simp only [Option.bind_some]
 unfold rightP
 by_cases h:(wrongP p).2.2=0
 ·rw [decide_eq_true h,beq_iff_eq.2 h]
 ·rw [decide_eq_false h,beq_eq_false_iff_ne.2 h]
theorem machineSteps_law (p:Pg) (v:List Int) (bad:Int × Int):F_plaitlaw12_MachineSteps (p,v,bad)=some true:=by
 have hvl:(v.take 60).length ≤ 60:=by simp; omega
 have hcv:=cutm v 60
 unfold F_plaitlaw12_MachineSteps
 simp only
 rw [few_x]
 simp only [Option.bind_some]
 have hsm:=Y4p p
 generalize fewP p=q at *
 obtain ⟨cs0,h1,h2⟩:=new_x q hsm
 rw [h2]
 simp only [Option.bind_some]
 rw [Ydg q hsm]
 simp only [Option.bind_some]
 by_cases hq:rightP q
 case neg =>
  rw [if_neg hq,decide_eq_false hq,bif_t (by rfl),Y13]
  simp only [Option.bind_some]
  rw [bif_t (by rfl),bif_t (by rfl),bif_t (by rfl),zsame2]
  rfl
 have hR:=(Yck q).1 hq
 have g0:=Y9p hR (h1 hR)
 rw [if_pos hq,decide_eq_true hq,bif_f (by rfl),rnew_x q hR]
 simp only [Option.bind_some]
 rw [bif_f (by rfl),Y6a g0.gi g0.rel (Y9q hR)]
 simp only [Option.bind_some]
 rw [bif_f (by rfl),Y4j _ (by simp)]
 simp only [Option.bind_some]
 rw [bif_f (by rfl),Y13]
 simp only [Option.bind_some]
 rw [bif_f (by rfl),bif_t (sub3L.2 ⟨by omega,by omega,by omega⟩),show cut v (toN 0) (toN (Min.min ((v.length:Nat):Int) 60) - toN 0)=v.take 60 from hcv]
 generalize v.take 60=v at *
 have key:=Y88 (f:=Zbp) (fun x=>∃ (n:Nat) (s:MS) (cs cs':List Ch),n ≤ v.length∧GoodN n s cs∧RelCs cs' s.cs∧x=(v,(v.length:Int),(n:Int),bad,s.w cs,s.w cs'))
  (fun y=>y=.inl true ∨ y=.inr ()) (fun x=>(v.length - x.2.2.1).toNat) (by
   rintro x ⟨n,s,cs,cs',hn,hg,hr,rfl⟩
   by_cases hlt:n < v.length
   case neg =>
    right
    refine ⟨_,?_,.inr rfl⟩
    unfold Zbp
    simp only
    rw [bif_f (decide_eq_false (by omega))]
   have hcl:=Y2v hg.gi
   have go:∀ (hne:s.chs ≠ []) (u:Int),∃ c cs1 cs2,c ∈ s.chs∧GoodN (n+1) (s.step c) cs1∧RelCs cs2 (s.step c).cs∧Z3x (s.chs,u)=some c∧Z1a (s.w cs,c)=some ((s.step c).w cs1,(s.step c).L,0) ∧
    Z63 (s.w cs',c)=some ((s.step c).w cs2,(s.step c).L)∧Z61 ((s.step c).w cs1,(s.step c).w cs2)=some true∧Z5v ((s.step c).L,(s.step c).L)=some true:=fun hne u=>Yg4 hg hr (by omega) hne u
   have hw:IntKind.wrap .i64 ((n:Int)+1)=((n+1:Nat):Int):=wrapI (by omega) (by omega)
   unfold Zbp
   simp only
   rw [bif_t (decide_eq_true (by omega)),bif_t (Y6k hlt),Ybp hr hg.gi]
   simp only [Option.bind_some]
   rw [Y2t hg.rel hg.gi hg.ev.1]
   simp only [Option.bind_some]
   rw [Yd6 _ (by omega)]
   simp only [Option.bind_some]
   rw [bif_f (by rfl),Y2u bad (by omega)]
   simp only [Option.bind_some]
   by_cases hb:bad ∈ s.chs
   ·obtain ⟨csb,_,eb⟩:=hg.step (by omega) hb
    rw [tB_t hb,eb]
    simp only [Option.bind_some]
    have hne:s.chs ≠ []:=fun e=>by rw [e] at hb; cases hb
    have hl0:¬ s.chs.length=0:=fun e=>hne (List.eq_nil_of_length_eq_zero e)
    obtain ⟨c,cs1,cs2,q1,q2,q3,q4,q5,q6,q7,q8⟩:=go hne (getAt 0 v (toN (n:Int)))
    rw [bif_f (by rfl),bif_f (by simp; omega),q4]
    simp only [Option.bind_some]
    rw [q5]
    simp only [Option.bind_some]
    rw [q6]
    simp only [Option.bind_some]
    rw [bif_f (by rfl),q7]
    simp only [Option.bind_some]
    rw [bif_f (by rfl),q8]
    simp only [Option.bind_some]
    rw [bif_f (by rfl),hw]
    left
    exact ⟨_,rfl,⟨n+1,s.step c,cs1,cs2,hlt,q2,q3,rfl⟩,by simp only; omega⟩
   ·rw [tB_f hb,Yg2 (hg.good (by omega)) hb]
    simp only [Option.bind_some]
    rw [bif_t (by rfl),bif_f (by rfl),bif_f (by rfl),zsame2]
    simp only [Option.bind_some]
    rw [bif_f (by rfl)]
    by_cases hne:s.chs=[]
    ·right
     refine ⟨_,?_,.inl rfl⟩
     rw [hne,bif_t (by rfl)]
    have hl0:¬ s.chs.length=0:=fun e=>hne (List.eq_nil_of_length_eq_zero e)
    obtain ⟨c,cs1,cs2,q1,q2,q3,q4,q5,q6,q7,q8⟩:=go hne (getAt 0 v (toN (n:Int)))
    rw [bif_f (by simp; omega),q4]
    simp only [Option.bind_some]
    rw [q5]
    simp only [Option.bind_some]
    rw [q6]
    simp only [Option.bind_some]
    rw [bif_f (by rfl),q7]
    simp only [Option.bind_some]
    rw [bif_f (by rfl),q8]
    simp only [Option.bind_some]
    rw [bif_f (by rfl),hw]
    left
    exact ⟨_,rfl,⟨n+1,s.step c,cs1,cs2,hlt,q2,q3,rfl⟩,by simp only; omega⟩) (v,(v.length:Int),((0:Nat):Int),bad,(MS.new q).w cs0,(MS.new q).w (q.1.map newC)) ⟨0,MS.new q,cs0,q.1.map newC,Nat.zero_le _,g0,Y9q hR,rfl⟩
 obtain ⟨y,e,hy⟩:=key
 rw [show loop Zbp (v,(v.length:Int),0,bad,(MS.new q).w cs0,(MS.new q).w (q.1.map newC))=_ from e]
 rcases hy with hy | hy <;> subst hy <;> rfl
end Go.Proofs.YthdlpkdojipfhaaGreat.VX.VxM_M

