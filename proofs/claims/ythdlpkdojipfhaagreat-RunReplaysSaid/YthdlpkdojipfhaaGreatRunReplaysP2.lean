/- Laid for the law RunReplays. -/
import Derived.Test.YthdlpkdojipfhaaGreatRunReplaysP1
set_option linter.unusedVariables false
set_option linter.unusedSimpArgs false
namespace Go.Proofs.YthdlpkdojipfhaaGreat.VX.VxM_M
open Go.Proofs
abbrev MS.r (s:MS) (cs:List Ch):WT × List Ev:=(s.w cs,s.L)
theorem RelC.to {c d:Ch} {a:AC} (h:RelC c a) (k:SameC c d):RelC d a where
 cap:=k.cap.symm.trans h.cap
 closed:=k.closed.symm.trans h.closed
 sent:=k.sent.symm.trans h.sent
 got:=k.got.symm.trans h.got
 sends:=k.sends.symm.trans h.sends
 recvs:=k.recvs.symm.trans h.recvs
 rok:=k.okb
 rcap:=k.bcap.symm.trans h.rcap
 items:=k.items.symm.trans h.items
theorem Ygq {α:Type} (l:List α) (g:Nat) (x:α) {n:Nat} (hn:n < l.length):(l.set g x).take (n+1)=(l.set g x).take n++[if n=g then x else l[n]]:=by
 have hn':n < (l.set g x).length:=by simpa using hn
 rw [← List.take_append_getElem hn',List.getElem_set]
 congr 2
 by_cases e:g=n
 ·rw [if_pos e,if_pos e.symm]
 ·rw [if_neg e,if_neg (fun q=>e q.symm)]
section
variable {s:MS} {g:Int}
theorem Ye5 (s:MS) (cs:List Ch) (e:Ev) {m:Nat} (hb:s.Bd m):Z6t (s.r cs,e)=some ((s.tell e).r cs):=by
 unfold Z6t
 simp only [List.nil_append]
 rw [bif_t (Y5j.2 (by have:=hb.1; show 0+s.L.length ≤ _; omega)),bif_t (Y5j.2 (by have:=hb.1; show s.L.length+1 ≤ _; omega)),wrapI (by have:=hb.2.1; omega) (by have:=hb.2.2; omega)]
theorem rgor_x (s:MS) (cs:List Ch) (hg:0 ≤ g) (hl:s.gs.length ≤ 1000) (x:Gor):Z5v (s.r cs,g,x)=some ((s.gset g x).r cs):=by
 have key:=Y86 (f:=Zck) s.gs.length (fun n=>(g,s.gs,(s.gs.length:Int),(n:Int),s.r cs,x,0,0,0,(0,0),(s.gs.set (toN g) x).take n)) (s.r cs,0,0,0,(0,0),s.gs.set (toN g) x) (by
   intro n hn
   have hz:getAt ((0:Int),((0:Int),((0:Int),false))) s.gs (toN (n:Int))=s.gs[n]:=getAtL _ hn
   have hs1:=Ygq s.gs (toN g) x hn
   unfold Zck
   simp only [hz]
   rw [bif_t (decide_eq_true (by omega)),bif_t (Y6r hn),wrapI (by omega) (by omega)]
   by_cases e:(n:Int)=g
   ·have e2:n=toN g:=by unfold toN; omega
    rw [if_pos e2] at hs1
    rw [bif_t (by simpa using e),bif_t (Y5j.2 (by simp; omega)),show (s.gs.set (toN g) x).take n++x :: []=(s.gs.set (toN g) x).take (n+1) from hs1.symm]; rfl
   ·have e2:n ≠ toN g:=by unfold toN; omega
    rw [if_neg e2] at hs1
    rw [bif_f (by simpa using e),bif_t (Y5j.2 (by simp; omega)),show (s.gs.set (toN g) x).take n++s.gs[n] :: []=(s.gs.set (toN g) x).take (n+1) from hs1.symm]; rfl) (by
   unfold Zck
   simp only
   rw [bif_f (decide_eq_false (by omega)),List.take_of_length_le (by simp)]) 0 (Nat.zero_le _)
 unfold Z5v
 simp only
 rw [show loop Zck (g,s.gs,(s.gs.length:Int),0,s.r cs,x,0,0,0,(0,0),[])=_ from key]
 rfl
theorem Ybt (s:MS) (cs:List Ch) (k:Int) (hk:0 ≤ k) (hl:cs.length ≤ 1000) (x:Ch):Z5l (s.r cs,k,x)=some (s.r (cs.set (toN k) x)):=by
 have key:=Y86 (f:=Zcg) cs.length (fun n=>(k,cs,(cs.length:Int),(n:Int),s.r cs,x,0,0,0,(0,0),(cs.set (toN k) x).take n)) (s.r cs,0,0,0,(0,0),cs.set (toN k) x) (by
   intro n hn
   have hz:cs.getD ((n:Int)).toNat zeroC=cs[n]:=Y6c hn _
   have hs1:=Ygq cs (toN k) x hn
   unfold Zcg
   simp only [chz_eq,hz]
   rw [bif_t (decide_eq_true (by omega)),bif_t (Y6r hn),wrapI (by omega) (by omega)]
   by_cases e:(n:Int)=k
   ·have e2:n=toN k:=by unfold toN; omega
    rw [if_pos e2] at hs1
    rw [bif_t (by simpa using e),bif_t (Y5j.2 (by simp; omega)),show (cs.set (toN k) x).take n++x :: []=(cs.set (toN k) x).take (n+1) from hs1.symm]; rfl
   ·have e2:n ≠ toN k:=by unfold toN; omega
    rw [if_neg e2] at hs1
    rw [bif_f (by simpa using e),bif_t (Y5j.2 (by simp; omega)),show (cs.set (toN k) x).take n++cs[n] :: []=(cs.set (toN k) x).take (n+1) from hs1.symm]; rfl) (by
   unfold Zcg
   simp only
   rw [bif_f (decide_eq_false (by omega)),List.take_of_length_le (by simp)]) 0 (Nat.zero_le _)
 unfold Z5l
 simp only
 rw [show loop Zcg (k,cs,(cs.length:Int),0,s.r cs,x,0,0,0,(0,0),[])=_ from key]
 rfl
theorem Yd1 (s:MS) (cs:List Ch) (k:Int) (hk:0 ≤ k) (hl:s.ls.length ≤ 1000) (x:Lk):Z63 (s.r cs,k,x)=some ((s.lset k x).r cs):=by
 have key:=Y86 (f:=Zco) s.ls.length (fun n=>(k,s.ls,(s.ls.length:Int),(n:Int),s.r cs,x,0,0,0,(0,0),(s.ls.set (toN k) x).take n)) (s.r cs,0,0,0,(0,0),s.ls.set (toN k) x) (by
   intro n hn
   have hz:s.ls.getD ((n:Int)).toNat (false,[])=s.ls[n]:=Y6c hn _
   have hs1:=Ygq s.ls (toN k) x hn
   unfold Zco
   simp only [lkz_eq,hz]
   rw [bif_t (decide_eq_true (by omega)),bif_t (Y6r hn),wrapI (by omega) (by omega)]
   by_cases e:(n:Int)=k
   ·have e2:n=toN k:=by unfold toN; omega
    rw [if_pos e2] at hs1
    rw [bif_t (by simpa using e),bif_t (Y5j.2 (by simp; omega)),show (s.ls.set (toN k) x).take n++x :: []=(s.ls.set (toN k) x).take (n+1) from hs1.symm]; rfl
   ·have e2:n ≠ toN k:=by unfold toN; omega
    rw [if_neg e2] at hs1
    rw [bif_f (by simpa using e),bif_t (Y5j.2 (by simp; omega)),show (s.ls.set (toN k) x).take n++s.ls[n] :: []=(s.ls.set (toN k) x).take (n+1) from hs1.symm]; rfl) (by
   unfold Zco
   simp only
   rw [bif_f (decide_eq_false (by omega)),List.take_of_length_le (by simp)]) 0 (Nat.zero_le _)
 unfold Z63
 simp only
 rw [show loop Zco (k,s.ls,(s.ls.length:Int),0,s.r cs,x,0,0,0,(0,0),[])=_ from key]
 rfl
theorem Yd5 (s:MS) (cs:List Ch) (k:Int) (hk:0 ≤ k) (hl:s.os.length ≤ 1000) (x:On):Z67 (s.r cs,k,x)=some ((s.oset k x).r cs):=by
 have key:=Y86 (f:=Zcq) s.os.length (fun n=>(k,s.os,(s.os.length:Int),(n:Int),s.r cs,x,0,0,0,(0,0),(s.os.set (toN k) x).take n)) (s.r cs,0,0,0,(0,0),s.os.set (toN k) x) (by
   intro n hn
   have hz:s.os.getD ((n:Int)).toNat zeroO=s.os[n]:=Y6c hn _
   have hs1:=Ygq s.os (toN k) x hn
   unfold Zcq
   simp only [ocz_eq,hz]
   rw [bif_t (decide_eq_true (by omega)),bif_t (Y6r hn),wrapI (by omega) (by omega)]
   by_cases e:(n:Int)=k
   ·have e2:n=toN k:=by unfold toN; omega
    rw [if_pos e2] at hs1
    rw [bif_t (by simpa using e),bif_t (Y5j.2 (by simp; omega)),show (s.os.set (toN k) x).take n++x :: []=(s.os.set (toN k) x).take (n+1) from hs1.symm]; rfl
   ·have e2:n ≠ toN k:=by unfold toN; omega
    rw [if_neg e2] at hs1
    rw [bif_f (by simpa using e),bif_t (Y5j.2 (by simp; omega)),show (s.os.set (toN k) x).take n++s.os[n] :: []=(s.os.set (toN k) x).take (n+1) from hs1.symm]; rfl) (by
   unfold Zcq
   simp only
   rw [bif_f (decide_eq_false (by omega)),List.take_of_length_le (by simp)]) 0 (Nat.zero_le _)
 unfold Z67
 simp only
 rw [show loop Zcq (k,s.os,(s.os.length:Int),0,s.r cs,x,0,0,0,(0,0),[])=_ from key]
 rfl
theorem Yd0 (s:MS) (cs:List Ch) (hl:cs.length ≤ 1000) (hc:∀ c ∈ cs,chOK c):Z61 (s.r cs,g)=some (s.r (cs.map fun c=>leaveC c g)):=by
 have key:=Y86 (f:=Zcm) cs.length (fun n=>(g,cs,(cs.length:Int),(n:Int),s.r cs,0,0,0,(0,0),(cs.take n).map fun c=>leaveC c g)) (s.r cs,0,0,0,(0,0),cs.map fun c=>leaveC c g) (by
   intro n hn
   have hz:cs.getD ((n:Int)).toNat zeroC=cs[n]:=Y6c hn _
   have hok:=hc _ (List.getElem_mem hn)
   have l1:=len1 hok
   have l2:=len2 hok
   unfold Zcm
   simp only [chz_eq,hz]
   rw [bif_t (decide_eq_true (by omega)),bif_t (Y6r hn),Ycz _ _ (by omega) (by omega),wrapI (by omega) (by omega)]
   simp only [Option.bind_some]
   rw [bif_t (Y5j.2 (by simp; omega)),show ((cs.take n).map fun c=>leaveC c g)++leaveC cs[n] g :: []=(cs.take (n+1)).map fun c=>leaveC c g by rw [← List.take_append_getElem hn,List.map_append]; rfl]; rfl) (by
   unfold Zcm
   simp only
   rw [bif_f (decide_eq_false (by omega)),List.take_length]) 0 (Nat.zero_le _)
 unfold Z61
 simp only
 rw [show loop Zcm (g,cs,(cs.length:Int),0,s.r cs,0,0,0,(0,0),[])=_ from key]
 rfl
theorem rto_x (s:MS) (cs:List Ch) (pc:Int) (hg:0 ≤ g∧g < s.gs.length) (hl:s.gs.length ≤ 1000) (h1:0 ≤ (s.g g).1) (h2:(s.g g).1 < s.p.2.2.2.2.2.length) (hp:pc ≤ (blk s.p (s.g g).1).length):Z6v (s.r cs,g,pc)=some ((s.to g pc).r cs):=by
 have e1:inb (gAt s.gs g).1 s.p.2.2.2.2.2.length=true:=inbL.2 ⟨h1,h2⟩
 unfold Z6v
 simp only [gAt_eq,blk_eq]
 rw [bif_t (inbL.2 hg),bif_t e1]
 by_cases e:pc=(blk s.p (s.g g).1).length
 ·have hd:decide (pc ≥ ((blk s.p (gAt s.gs g).1).length:Int))=true:=decide_eq_true (by show pc ≥ ((blk s.p (s.g g).1).length:Int); omega)
  rw [bif_t hd,rgor_x s cs hg.1 hl]
  simp only [Option.bind_some]
  unfold MS.to gTo
  rw [if_pos e]; rfl
 ·have hd:decide (pc ≥ ((blk s.p (gAt s.gs g).1).length:Int))=false:=decide_eq_false (by show ¬ pc ≥ ((blk s.p (s.g g).1).length:Int); omega)
  rw [bif_f hd,rgor_x s cs hg.1 hl]
  simp only [Option.bind_some]
  unfold MS.to gTo
  rw [if_neg e]; rfl
theorem ron_x (s:MS) (cs:List Ch) (hg:0 ≤ g∧g < s.gs.length) (hl:s.gs.length ≤ 1000) (hok:gOK s.p (s.g g)) (hst:(s.g g).2.2.1 ≠ 2) (hb:(s.g g).2.1 ≤ 1000):Z65 (s.r cs,g)=some ((s.on g).r cs):=by
 have hne:(s.g g).2.1 ≠ (blk s.p (s.g g).1).length:=fun e=>hst (hok.2.2.2.2.2.2.1 e)
 have k1:=hok.2.2.1
 have k2:=hok.2.2.2.1
 unfold Z65
 simp only [gAt_eq]
 have hw:IntKind.wrap .i64 ((gAt s.gs g).2.1+1)=(s.g g).2.1+1:=wrapI (by show -9223372036854775808 ≤ (s.g g).2.1+1; omega) (by show (s.g g).2.1+1 < _; omega)
 rw [bif_t (inbL.2 hg),hw,rto_x s cs _ hg hl hok.1 hok.2.1 (by omega)]
 rfl
theorem Yei (s:MS) (cs:List Ch) (hg:0 ≤ g∧g < s.gs.length) (hl:s.gs.length ≤ 1000):Z6x (s.r cs,g)=some ((s.wait g).r cs):=by
 unfold Z6x
 simp only [gAt_eq]
 rw [bif_t (inbL.2 hg),rgor_x s cs hg.1 hl]
 rfl
theorem Ycx (s:MS) (cs:List Ch) (hg:0 ≤ g∧g < s.gs.length) (hok:gOK s.p (s.g g)) (hst:(s.g g).2.2.1 ≠ 2):Z5x (s.w cs,g)=some (s.instr g):=by
 have hne:(s.g g).2.1 ≠ (blk s.p (s.g g).1).length:=fun e=>hst (hok.2.2.2.2.2.2.1 e)
 have k3:=hok.2.2.1
 have k4:=hok.2.2.2.1
 have e1:inb (gAt s.gs g).1 s.p.2.2.2.2.2.length=true:=inbL.2 ⟨hok.1,hok.2.1⟩
 have e2:inb (gAt s.gs g).2.1 (blk s.p (gAt s.gs g).1).length=true:=inbL.2 ⟨k3,by show (s.g g).2.1 < ((blk s.p (s.g g).1).length:Int); omega⟩
 unfold Z5x
 simp only [gAt_eq,blk_eq,inz_eq]
 rw [bif_t (inbL.2 hg),bif_t e1,bif_t e2]
 rfl
theorem Ydu (s:MS) (cs:List Ch) (x:W) (h:DoneOK s x):Z6j (s.w cs,x.1,x.2.1)=some (s.sends x):=by
 unfold Z6j
 simp only
 rw [Ycx s cs h.g h.ok h.st]
 simp only [Option.bind_some,sel_eq,Y2l]
 unfold MS.sends sendsI
 by_cases c4:(s.instr x.1).1=4
 ·obtain ⟨q1,q2,q3⟩:=h.sel c4
  rw [bif_t (by simpa using c4),bif_t (inbL.2 q1),bif_t (inbL.2 ⟨q2,q3⟩),c4]
  simp
 ·rw [bif_f (by simpa using c4),decide_eq_false c4]
  simp
  by_cases c1:(s.instr x.1).1=1
  ·rw [c1]; rfl
  ·rw [beq_eq_false_iff_ne.2 c1,decide_eq_false c1]
theorem Ybw (s:MS) (cs:List Ch) (hr:RelCs cs s.cs) (x:W) (k no:Int) (b:Bool) (h:DoneOK s x) (hb:s.Bd 1) (hgl:s.gs.length ≤ 1000) (hc:b=true→no=0∧s.sends x=false) :
  Z5p (s.r cs,k,x,no,b)=some ((s.done x k no b).r (cs.map fun c=>leaveC c x.1)):=by
 have hcs:∀ c ∈ cs,chOK c:=hr.ok h.ch
 have hcl:cs.length ≤ 1000:=by rw [hr.1]; exact h.cl
 -- behind the telling
 have fin:∀ (s1:MS),s1.p=s.p→s1.gs.length=s.gs.length→gOK s1.p (s1.g x.1)→(s1.g x.1).2.2.1 ≠ 2→(s1.g x.1).2.1 ≤ 1000 →
   ((Z65 (s1.r cs,x.1)).bind fun r=>(Z61 (r,x.1)).bind fun r=>some r)=some (((s1.on x.1).leave x.1).r (cs.map fun c=>leaveC c x.1)):=by
  intro s1 e1 e2 e3 e4 e5
  rw [ron_x s1 cs (by rw [e2]; exact h.g) (by rw [e2]; exact hgl) e3 e4 e5]
  simp only [Option.bind_some]
  rw [Yd0 (s1.on x.1) cs hcl hcs]
  rfl
 have fin2:∀ (e:Ev) (c:Bool),(bif inb x.1 (s.tell e).gs.length then (Z5v ((s.tell e).r cs,x.1,(gAt (s.tell e).gs x.1).1,(gAt (s.tell e).gs x.1).2.1,(gAt (s.tell e).gs x.1).2.2.1,c)).bind fun r=>(Z65 (r,x.1)).bind fun r=>(Z61 (r,x.1)).bind fun r=>some r else none) =
   some (((((s.tell e).gset x.1 (gCl (s.g x.1) c)).on x.1).leave x.1).r (cs.map fun c=>leaveC c x.1)):=by
  intro e c
  have hgi:inb x.1 (s.tell e).gs.length=true:=inbL.2 h.g
  have hg1:((s.tell e).gset x.1 (gCl (s.g x.1) c)).g x.1=gCl (s.g x.1) c:=Y69 h.g _
  rw [bif_t hgi,rgor_x (s.tell e) cs h.g.1 hgl]
  simp only [Option.bind_some]
  exact fin ((s.tell e).gset x.1 (gCl (s.g x.1) c)) rfl (by show (s.gs.set _ _).length=_; rw [List.length_set]) (by rw [hg1]; exact h.ok) (by rw [hg1]; exact h.st) (by rw [hg1]; exact h.pc)
 unfold Z5p
 simp only [gAt_eq]
 rw [Ydu s cs x h]
 simp only [Option.bind_some]
 unfold MS.done MS.done1
 cases b with
 | true =>
  obtain ⟨h0,h1⟩:=hc rfl
  subst h0
  rw [h1,bif_f (by rfl),bif_t (by rfl),Ye5 s cs _ hb]
  simp only [Option.bind_some]
  rw [fin2,if_neg (by simp),if_pos trivial]
 | false =>
  by_cases c1:s.sends x=true
  ·rw [c1,bif_t (by rfl),bif_f (by rfl),Ye5 s cs _ hb,if_pos rfl]
   simp only [Option.bind_some]
   exact fin (s.tell (x.1,3,k,no,x.2.2)) rfl rfl h.ok h.st h.pc
  ·have c1:s.sends x=false:=Bool.eq_false_iff.2 c1
   rw [c1,bif_f (by rfl),bif_f (by rfl),Ye5 s cs _ hb]
   simp only [Option.bind_some]
   rw [fin2,if_neg (by simp),if_neg (by simp)]
theorem Ydt {c:Ch} {a:AC} (h:RelC c a) (ho:a.Ok) {w:W} (hw:isW w) (hs:a.sent < 1048576) (hn:newW a.sends w):∃ c',Z4v (c,w)=some (c',(a.send w).2,0)∧RelC c' (a.send w).1:=by
 obtain ⟨c1,e1,e2⟩:=h.send ho w hs hn
 obtain ⟨x,f1,f2⟩:=Yds c w (h.ok.2 ho) hw
 rw [e1] at f1 f2
 exact ⟨x,f1,e2.to (f2 rfl)⟩
theorem Ydn {c:Ch} {a:AC} (h:RelC c a) (ho:a.Ok) {w:W} (hw:isW w) (hs:a.sent < 1048576) (hn:newW a.recvs w):∃ c',Z4t (c,w)=some (c',(a.recv w).2,0)∧RelC c' (a.recv w).1:=by
 obtain ⟨c1,e1,e2⟩:=h.recv ho w hs hn
 obtain ⟨x,f1,f2⟩:=Ydm c w (h.ok.2 ho) hw
 rw [e1] at f1 f2
 exact ⟨x,f1,e2.to (f2 rfl)⟩
theorem Ydl {c:Ch} {a:AC} (h:RelC c a) (ho:a.Ok) {w:W} (hw:isW w):∃ y,Z4t (c,w)=some y:=by
 obtain ⟨x,f1,_⟩:=Ydm c w (h.ok.2 ho) hw
 exact ⟨_,f1⟩
theorem Yf3 {s:MS} {x:W} {k:Int} {b:Bool} (h:fitI s.p (s.instr x.1) x.2.1 b k):s.sends x=b:=by
 unfold MS.sends sendsI
 rcases h with ⟨q1,q2,q3,q4⟩ | ⟨q1,q2,q3⟩
 ·rw [q4,q1]; cases b <;> rfl
 ·cases b with
  | true=>rw [show (s.instr x.1).1=1 from q1]; rfl
  | false=>rw [show (s.instr x.1).1=2 from q1]; rfl
theorem Ydg (s:MS) (cs:List Ch) (hr:RelCs cs s.cs) (x:W) (k:Int) (b:Bool) (h:OfferOK s x k b) (hd:DoneOK s x) (hsd:s.sends x=b) (hb:s.Bd 2) (hgl:s.gs.length ≤ 1000)
  (h1:(s.offer x k b).1.1 ≠ 0→(s.offer x k b).1.1 ≠ 3→(s.offer x k b).1.2.2.1.1 ≠ -1→DoneOK (s.offer x k b).2 (s.offer x k b).1.2.2.1)
  (h2:(s.offer x k b).1.1 ≠ 0→(s.offer x k b).1.1 ≠ 3→DoneOK (if (s.offer x k b).1.2.2.1.1=-1 then (s.offer x k b).2 else (s.offer x k b).2.done (s.offer x k b).1.2.2.1 k (s.offer x k b).1.2.2.2 false) x)
  (hlen:∀ (y:W) n,0 ≤ y.1∧y.1 < s.gs.length→((s.offer x k b).2.done y k n false).gs.length=s.gs.length) :
  ∃ cs',RelCs cs' (s.pass x k b).cs∧Z6b (s.r cs,k,x)=some ((s.pass x k b).r cs'):=by
 have hkn:k.toNat < s.cs.length:=by have:=h.kr; omega
 have hrel:=hr.2 k.toNat hkn
 have hcl:cs.length ≤ 1000:=by rw [hr.1]; exact hd.cl
 have hki:inb k cs.length=true:=inbL.2 (by rw [hr.1]; exact h.kr)
 have hout:=Ya8 (s.ch k) b x
 have hoe:(s.offer x k b).1=((s.ch k).off b x).2:=rfl
 -- behind the send or the receive
 have fin:∀ (c':Ch),RelC c' ((s.ch k).off b x).1→∃ cs',RelCs cs' (s.pass x k b).cs∧((Z5l (s.r cs,k,c')).bind fun r28 =>
   bif ((s.ch k).off b x).2.1 == 0 then (Z6x (r28,x.1)).bind fun r=>some r
   else bif ((s.ch k).off b x).2.1 == 3 then some ((r28.1.1,r28.1.2.1,r28.1.2.2.1,r28.1.2.2.2.1,r28.1.2.2.2.2.1,r28.1.2.2.2.2.2.1,3),r28.2)
   else bif decide (((s.ch k).off b x).2.2.2.1.1 ≥ 0) then (Z5p (r28,k,((s.ch k).off b x).2.2.2.1,((s.ch k).off b x).2.2.2.2,false)).bind fun r29=>(Z5p (r29,k,x,((s.ch k).off b x).2.2.1,((s.ch k).off b x).2.1 == 2)).bind fun r=>some r
   else (Z5p (r28,k,x,((s.ch k).off b x).2.2.1,((s.ch k).off b x).2.1 == 2)).bind fun r=>some r)=some ((s.pass x k b).r cs'):=by
  intro c' hc'
  have r1:RelCs (cs.set (toN k) c') (s.offer x k b).2.cs:=hr.set hc'
  rw [show Z5l (s.r cs,k,c')=some ((s.offer x k b).2.r (cs.set (toN k) c')) from Ybt s cs k h.kr.1 hcl c']
  simp only [Option.bind_some]
  unfold MS.pass
  rw [hoe] at h1 h2 ⊢
  have hb1:(s.offer x k b).2.Bd 2:=hb
  have hkind:=hout.kind
  have hd2:((s.ch k).off b x).2.1=2→((s.ch k).off b x).2.2.1=0∧b=false:=by
   intro e
   rcases hout.kind with q | q | q | q
   ·omega
   ·omega
   ·refine ⟨?_,q.2.1⟩
    have hb0:=q.2.1
    subst hb0
    have e:(AC.recv (s.ch k) x).2.1=2:=e
    show (AC.recv (s.ch k) x).2.2.1=0
    unfold AC.recv at e ⊢
    split
    ·rename_i v hv; rw [hv] at e; cases e
    ·rename_i hv
     rw [hv] at e
     simp only at e
     split
     ·rfl
     ·rename_i q1
      rw [if_neg q1] at e
      split
      ·rename_i q2; rw [if_pos q2] at e; cases e
      ·split <;> rfl
   ·omega
  generalize ho:((s.ch k).off b x).2=o at *
  by_cases c0:o.1=0
  ·rw [bif_t (by simpa using c0),if_pos c0,Yei (s.offer x k b).2 _ hd.g hgl]
   exact ⟨_,r1,rfl⟩
  rw [bif_f (by simpa using c0),if_neg c0]
  by_cases c3:o.1=3
  ·rw [bif_t (by simpa using c3),if_pos c3]
   exact ⟨_,r1,rfl⟩
  rw [bif_f (by simpa using c3),if_neg c3]
  have h1:=h1 c0 c3
  have h2:=h2 c0 c3
  have hbq:(o.1 == 2)=decide (o.1=2):=by
   by_cases e:o.1=2
   ·rw [e]; rfl
   ·rw [beq_eq_false_iff_ne.2 e,decide_eq_false e]
  by_cases cw:o.2.2.1.1=-1
  ·rw [if_pos cw] at h2 ⊢
   rw [bif_f (decide_eq_false (by omega)),hbq,Ybw (s.offer x k b).2 _ r1 x k _ _ h2 (hb1.le (by omega)) hgl (fun e=>by
    obtain ⟨z1,z2⟩:=hd2 (of_decide_eq_true e)
    exact ⟨z1,by rw [← z2]; exact hsd⟩)]
   refine ⟨_,?_,rfl⟩
   rw [Y40]; exact Y7q r1 _
  ·have hd1:=h1 cw
   rw [if_neg cw] at h2 ⊢
   have hv0:0 ≤ o.2.2.1.1:=hd1.g.1
   have hvg:0 ≤ o.2.2.1.1∧o.2.2.1.1 < s.gs.length:=hd1.g
   have r2:RelCs ((cs.set (toN k) c').map fun c=>leaveC c o.2.2.1.1) ((s.offer x k b).2.done o.2.2.1 k o.2.2.2 false).cs:=by rw [Y40]; exact Y7q r1 _
   have hne:x.1 ≠ o.2.2.1.1:=by
    rcases hkind with q | ⟨_,q⟩ | q | q
    ·exact absurd q.1 c0
    ·rcases q with q | q
     ·exact absurd (by rw [q]; rfl) cw
     ·exact fun e=>q.2 e.symm
    ·exact absurd (by rw [q.2.2.1]; rfl) cw
    ·exact absurd q.1 c3
   have hsd2:((s.offer x k b).2.done o.2.2.1 k o.2.2.2 false).sends x=b:=by
    refine Eq.trans ?_ hsd
    unfold MS.sends MS.instr
    rw [done_g (s.offer x k b).2 o.2.2.1 hvg _ _ _ hd.g.1 hne,done_p]
    rfl
   rw [bif_t (decide_eq_true hv0),Ybw (s.offer x k b).2 _ r1 o.2.2.1 k _ false hd1 (hb1.le (by omega)) hgl (fun e=>by cases e)]
   simp only [Option.bind_some]
   rw [hbq,Ybw ((s.offer x k b).2.done o.2.2.1 k o.2.2.2 false) _ r2 x k _ _ h2 (Y3z hb1 _ _ _ _) (by rw [hlen _ _ hvg]; exact hgl) (fun e=>by
    obtain ⟨z1,z2⟩:=hd2 (of_decide_eq_true e)
    exact ⟨z1,by rw [hsd2,z2]⟩)]
   refine ⟨_,?_,rfl⟩
   rw [Y40]; exact Y7q r2 _
 unfold Z6b
 simp only [chz_eq]
 rw [bif_t hki]
 cases b with
 | true =>
  obtain ⟨y,hy⟩:=Ydl hrel h.ok h.w
  obtain ⟨c',e1,e2⟩:=Ydt hrel h.ok h.w h.sent h.nw
  rw [hy]
  simp only [Option.bind_some]
  rw [Ydu s cs x hd,hsd]
  simp only [Option.bind_some]
  rw [bif_t (by rfl),bif_t hki,e1]
  exact fin c' e2
 | false =>
  obtain ⟨c',e1,e2⟩:=Ydn hrel h.ok h.w h.sent h.nw
  rw [e1]
  simp only [Option.bind_some]
  rw [Ydu s cs x hd,hsd]
  simp only [Option.bind_some]
  rw [bif_f (by rfl)]
  exact fin c' e2
end
end Go.Proofs.YthdlpkdojipfhaaGreat.VX.VxM_M
set_option linter.unusedVariables false
set_option linter.unusedSimpArgs false
namespace Go.Proofs.YthdlpkdojipfhaaGreat.VX.VxM_M
open Go.Proofs
section
variable {s:MS} {g:Int}
theorem Ydh (a b c:Int):Z6d (a,b,c)=some (a,b,c,0,-1):=rfl
theorem Ydf {cs:List Ch} (hr:RelCs cs s.cs) (h:GI s (-1)) {x:W} {k:Int} {b:Bool} (hk:0 ≤ k∧k < s.cs.length) (hg:0 ≤ x.1∧x.1 < s.gs.length) (hst:(s.g x.1).2.2.1=0) (hw:isW x) (hs:(s.ch k).sent < 1048576) (hf:fitI s.p (s.instr x.1) x.2.1 b k) (hb:s.Bd 2) :
  ∃ cs',RelCs cs' (s.pass x k b).cs∧Z6b (s.r cs,k,x)=some ((s.pass x k b).r cs'):=by
 have h1:=h.pass hk hg hst hw hs hf
 have hfw:s.fitW x.1 x k b:=⟨⟨hg.1,hg.2,.inr ⟨rfl,hst⟩⟩,hf⟩
 have hgl:=h.gl
 exact Ydg s cs hr x k b h1.2.1 ((h.weak x.1).done_ok hfw) (Yf3 hf) hb (by omega) h1.2.2.1 h1.2.2.2 (fun y n hy=>Y42 (s.offer x k b).2 y hy k n false)
theorem Yd4 {cs:List Ch} (hr:RelCs cs s.cs) (h:GI s (-1)) (r:Rdy s g) (t:Int) (ht:0 ≤ t) (hs:∀ a ∈ s.cs,a.sent < 1048576) (hop:(s.instr g).1=4) (A:Int) (hA:A=(s.instr g).2.1)
  (hn:∀ k,0 ≤ k→k < ((selAt s.p A).1.length:Int)→(s.ch (caseAt s.p A k).2).ready (caseAt s.p A k).1 g=false) :
  ∃ cs',RelCs cs' (s.offers g t (selAt s.p A).1).cs∧loop Zcu (g,t,(selAt s.p A).1,((selAt s.p A).1.length:Int),0,s.r cs,0,0,0,(0,0)) =
   some (g,(s.offers g t (selAt s.p A).1).r cs',0,0,0,(0,0)):=by
 have hsb:=Yew h r hop
 rw [← hA] at hsb
 have hl4:=Yey h.rp A
 obtain ⟨l,hl⟩:∃ l,l=(selAt s.p A).1:=⟨_,rfl⟩
 rw [← hl] at hn hl4 ⊢
 have hcase:∀ n:Nat,l.getD n (false,0)=caseAt s.p A n:=fun n=>by unfold caseAt; rw [← hl]; rfl
 have none0:=h.none (g:=g) (by have:=r.st; omega)
 have hcap:=Y2j h.rp
 have hscl:=h.cl
 let P:Nat→MS × List Ch→Prop:=fun n q=>RelCs q.2 q.1.cs∧GI q.1 g∧q.1.gs=s.gs∧q.1.p=s.p∧(∀ a ∈ q.1.cs,a.sent < 1048576)∧q.1.cs.length=s.cs.length ∧
  (∀ (k:Int) b,0 ≤ k→k < s.cs.length→(q.1.ch k).ready b g=(s.ch k).ready b g)∧(∀ (k:Int) b,0 ≤ k→k < s.cs.length→∀ y ∈ (q.1.ch k).mine b,y.1=g→y.2.1 < n)
 -- one offer
 have one:∀ n q,n < l.length→P n q→∃ cs',Zcu (g,t,l,(l.length:Int),(n:Int),q.1.r q.2,0,0,0,(0,0))=some (.inl (g,t,l,(l.length:Int),((n+1:Nat):Int),(q.1.offer (g,(n:Int),t) (l.getD n (false,0)).2 (l.getD n (false,0)).1).2.r cs',0,0,0,(0,0))) ∧
   P (n+1) ((q.1.offer (g,(n:Int),t) (l.getD n (false,0)).2 (l.getD n (false,0)).1).2,cs'):=by
  rintro n ⟨q,qc⟩ hnl ⟨p1,p2,p3,p4,p5,p6,p7,p8⟩
  simp only at p1 p2 p3 p4 p5 p6 p7 p8
  have hcn:=hcase n
  have hk:=Y2k h.rp hsb (k:=(n:Int)) (by rw [← hl]; omega)
  rw [← h.cl] at hk
  have hget:getAt (false,(0:Int)) l (toN (n:Int))=caseAt s.p A n:=(caz_eq l n).trans hcn
  rw [hcn]
  generalize hcs:caseAt s.p A n=cse at *
  have hk':0 ≤ cse.2∧cse.2 < q.cs.length:=by rw [p6]; exact hk
  have hkn:cse.2.toNat < q.cs.length:=by omega
  have hw:isW (g,(n:Int),t):=⟨r.hg.1,by show (0:Int) ≤ (n:Int); omega,ht⟩
  have hready:(q.ch cse.2).ready cse.1 g=false:=by
   rw [p7 _ _ hk.1 hk.2]
   have:=hn n (by omega) (by omega)
   rw [hcs] at this; exact this
  have hnw:newW ((q.ch cse.2).mine cse.1) (g,(n:Int),t):=by
   refine ⟨fun hm=>?_,by have:=p2.mine_len hk' cse.1; omega⟩
   obtain ⟨y,hy,e⟩:=List.mem_map.1 hm
   have e1:(keyW y).1=g:=by rw [e]; rfl
   have e2:(keyW y).2=(n:Int):=by rw [e]; rfl
   have:=p8 cse.2 cse.1 hk.1 hk.2 y hy e1
   have e2:y.2.1=(n:Int):=e2
   omega
  have hsn:=p5 _ (Y92 hkn zA)
  have hcok:=p2.chok hk'
  obtain ⟨o1,o2,o3,o4⟩:=Ya9 hcok hready hw hnw hsn
  have hrel:=p1.2 _ hkn
  have hqcl:qc.length ≤ 1000:=by rw [p1.1,p6]; omega
  have hki:inb cse.2 qc.length=true:=inbL.2 (by rw [p1.1]; exact hk')
  have hone:∃ c',RelC c' ((q.ch cse.2).off cse.1 (g,(n:Int),t)).1∧Zcu (g,t,l,(l.length:Int),(n:Int),q.r qc,0,0,0,(0,0))=some (.inl (g,t,l,(l.length:Int),((n+1:Nat):Int),(q.offer (g,(n:Int),t) cse.2 cse.1).2.r (qc.set (toN cse.2) c'),0,0,0,(0,0))):=by
   obtain ⟨y,hy⟩:=Ydl hrel hcok hw
   unfold Zcu
   simp only
   rw [bif_t (decide_eq_true (by omega)),bif_t (Y6r hnl)]
   simp only [hget,chz_eq]
   rw [bif_t hki,wrapI (n:=(n:Int)+1) (by omega) (by omega)]
   cases hcb:cse.1 with
   | true =>
    rw [hcb] at hnw
    obtain ⟨c',e1,e2⟩:=Ydt hrel hcok hw hsn hnw
    rw [hy]
    simp only [Option.bind_some]
    rw [bif_t (by rfl),bif_t hki,e1]
    simp only [Option.bind_some]
    rw [show Z5l (q.r qc,cse.2,c')=some ((q.offer (g,(n:Int),t) cse.2 true).2.r (qc.set (toN cse.2) c')) from Ybt q qc cse.2 hk'.1 hqcl c']
    exact ⟨c',e2,rfl⟩
   | false =>
    rw [hcb] at hnw
    obtain ⟨c',e1,e2⟩:=Ydn hrel hcok hw hsn hnw
    rw [e1]
    simp only [Option.bind_some]
    rw [bif_f (by rfl),show Z5l (q.r qc,cse.2,c')=some ((q.offer (g,(n:Int),t) cse.2 false).2.r (qc.set (toN cse.2) c')) from Ybt q qc cse.2 hk'.1 hqcl c']
    exact ⟨c',e2,rfl⟩
  obtain ⟨c',e1,e2⟩:=hone
  have hgq:q.g g=s.g g:=by unfold MS.g; rw [p3]
  have hfit:q.fitW g (g,(n:Int),t) cse.2 cse.1:=by
   refine ⟨⟨r.hg.1,by rw [p3]; exact r.hg.2,.inr ⟨rfl,by rw [hgq]; exact r.st⟩⟩,.inl ?_⟩
   unfold MS.instr
   rw [hgq,p4]
   refine ⟨hop,by show (0:Int) ≤ (n:Int); omega,?_,?_⟩
   ·show (n:Int) < ((selAt s.p (s.instr g).2.1).1.length:Int)
    rw [← hA,← hl]; omega
   ·show caseAt s.p (s.instr g).2.1 n=_
    rw [← hA,hcs]
  have hch:∀ k:Int,0 ≤ k→k < s.cs.length→(q.offer (g,(n:Int),t) cse.2 cse.1).2.ch k=if k=cse.2 then ((q.ch cse.2).off cse.1 (g,(n:Int),t)).1 else q.ch k:=by
   intro k h0 h1
   show (q.cs.set (toN cse.2) _).getD k.toNat zA=_
   rw [show toN cse.2=cse.2.toNat from rfl,Y6d hkn]
   by_cases e:k=cse.2
   ·rw [if_pos e,if_pos (by rw [e])]
   ·rw [if_neg e,if_neg (by omega)]; rfl
  refine ⟨qc.set (toN cse.2) c',e2,p1.set e1,p2.offer hk' hfit o1,p3,p4,fun a ha=>?_,by show (q.cs.set _ _).length=_; rw [List.length_set]; exact p6,fun k b h0 h1=>?_,fun k b h0 h1 y hy e=>?_⟩
  ·rcases List.mem_or_eq_of_mem_set ha with z | z
   ·exact p5 a z
   ·rw [z,o2]; exact hsn
  ·show ((q.offer (g,(n:Int),t) cse.2 cse.1).2.ch k).ready b g=_
   rw [hch k h0 h1]
   split
   ·rename_i e
    rw [show ((q.ch cse.2).off cse.1 (g,(n:Int),t)).1.ready b g=(q.ch cse.2).ready b g from o3 b,e]; exact p7 _ _ hk.1 hk.2
   ·exact p7 k b h0 h1
  ·have hy:y ∈ ((q.offer (g,(n:Int),t) cse.2 cse.1).2.ch k).mine b:=hy
   rw [hch k h0 h1] at hy
   split at hy
   ·rename_i e3
    have ho:=Ya8 (q.ch cse.2) cse.1 (g,(n:Int),t)
    by_cases eb:b=cse.1
    ·subst eb
     rcases ho.mine y hy with z | ⟨z,_⟩
     ·have:=p8 cse.2 cse.1 hk.1 hk.2 y z e; omega
     ·rw [z]; show (n:Int) < ((n+1:Nat):Int); omega
    ·have eb:b=!cse.1:=by cases b <;> cases hz:cse.1 <;> simp_all
     rw [eb,← Ygs] at hy
     have:=ho.theirs y hy
     rw [Ygs] at this
     have:=p8 cse.2 (!cse.1) hk.1 hk.2 y this e; omega
   ·have:=p8 k b h0 h1 y hy e; omega
 let fo:=fun (n:Nat) (q:MS × List Ch)=>Zcu (g,t,l,(l.length:Int),(n:Int),q.1.r q.2,0,0,0,(0,0))
 let nx:Nat→MS × List Ch→MS × List Ch:=fun n q=>((q.1.offer (g,(n:Int),t) (l.getD n (false,0)).2 (l.getD n (false,0)).1).2,match fo n q with | some (.inl r)=>r.2.2.2.2.2.1.1.2.2.1 | _=>[])
 have key:=Y8d (f:=Zcu) l.length (fun n q=>(g,t,l,(l.length:Int),(n:Int),q.1.r q.2,0,0,0,(0,0))) nx P (fun q=>(g,q.1.r q.2,0,0,0,(0,0))) (by
   rintro n q hnl hp
   obtain ⟨cs',e1,e2⟩:=one n q hnl hp
   have hnx:nx n q=((q.1.offer (g,(n:Int),t) (l.getD n (false,0)).2 (l.getD n (false,0)).1).2,cs'):=by
    show ((q.1.offer (g,(n:Int),t) (l.getD n (false,0)).2 (l.getD n (false,0)).1).2,match fo n q with | some (.inl r)=>r.2.2.2.2.2.1.1.2.2.1 | _=>[])=_
    have:fo n q=_:=e1
    rw [this]
   rw [hnx]
   exact ⟨e1,e2⟩) (by
   rintro q -
   unfold Zcu
   simp only
   rw [bif_f (decide_eq_false (by omega))]) (s,cs) ⟨hr,h.weak g,rfl,rfl,hs,rfl,fun _ _ _ _=>rfl,fun k b h0 h1 y hy e=>absurd e (none0.1 k ⟨h0,h1⟩ b y hy)⟩
 have hpi:(upto nx 0 l.length (s,cs)).1=s.offers g t l:=Yh8 (fun q:MS × List Ch=>q.1) nx (fun n s=>(s.offer (g,(n:Int),t) (l.getD n (false,0)).2 (l.getD n (false,0)).1).2) (fun _ _=>rfl) l.length 0 (s,cs)
 obtain ⟨k1,k2,k3,k4,_⟩:=key
 rw [hpi] at k1 k2
 exact ⟨_,k2,k1⟩
theorem rsel_x {cs:List Ch} (hr:RelCs cs s.cs) (h:GI s (-1)) (r:Rdy s g) (hb:s.Bd 4) (hs:∀ a ∈ s.cs,a.sent < 1048576) (k:Int) (hop:(s.instr g).1=4)
  (hk:k ≠ -1→0 ≤ k∧k < ((selAt s.p (s.instr g).2.1).1.length:Int))
  (hn:k=-1→∀ k,0 ≤ k→k < ((selAt s.p (s.instr g).2.1).1.length:Int)→(s.ch (caseAt s.p (s.instr g).2.1 k).2).ready (caseAt s.p (s.instr g).2.1 k).1 g=false) :
  ∃ cs',RelCs cs' (s.selO g k (s.instr g).2.1).cs∧Z6h (s.r cs,g,k,s.instr g)=some ((s.selO g k (s.instr g).2.1).r cs'):=by
 have hsb:=Yew h r hop
 have hpc:=r.pc h
 have hgl:=h.gl
 have hok:=h.gok r.hg
 have hof:=fun (q:k=-1)=>Yd4 (cs:=cs) (s:=s.tell (g,8,(s.instr g).2.1,0,-1)) hr (h.tell _) ⟨r.hg,r.st⟩ s.ev hb.2.1 hs hop (s.instr g).2.1 rfl (hn q)
 have hoo:=fun (q:k=-1)=>Yac (cs:=cs) (s:=s.tell (g,8,(s.instr g).2.1,0,-1)) hr (h.tell _) ⟨r.hg,r.st⟩ s.ev hb.2.1 hs hop (s.instr g).2.1 rfl (hn q) (g,k) rfl
 have hb1:inb (s.instr g).2.1 s.p.2.2.2.2.1.length=true:=inbL.2 hsb
 unfold MS.selO Z6h
 simp only [Ydh,Option.bind_some]
 rw [Ye5 s cs (g,8,(s.instr g).2.1,0,-1) hb]
 simp only [Option.bind_some,sel_eq,Y2l]
 rw [bif_t hb1]
 by_cases ck:k=-1
 ·rw [if_neg (fun q=>q ck),bif_f (decide_eq_false (by omega))]
  obtain ⟨cs',f3,f4⟩:=hof ck
  obtain ⟨f1,f2,_⟩:=hoo ck
  by_cases cd:(selAt s.p (s.instr g).2.1).2=true
  ·rw [if_pos cd,bif_t cd,Ye5 (s.tell (g,8,(s.instr g).2.1,0,-1)) cs (g,9,(s.instr g).2.1,0,s.ev) (hb.tell _)]
   simp only [Option.bind_some]
   rw [ron_x (g:=g) ((s.tell (g,8,(s.instr g).2.1,0,-1)).tell (g,9,(s.instr g).2.1,0,s.ev)) cs r.hg (by show s.gs.length ≤ 1000; omega) hok (by show (s.g g).2.2.1 ≠ 2; have:=r.st; omega) (by have:=hpc.2.1; have:=hpc.2.2; show (s.g g).2.1 ≤ 1000; omega)]
   exact ⟨cs,hr,rfl⟩
  ·rw [if_neg cd,bif_f (by simpa using cd)]
   have f4:loop Zcu (g,s.ev,(selAt s.p (s.instr g).2.1).1,((selAt s.p (s.instr g).2.1).1.length:Int),0,(s.tell (g,8,(s.instr g).2.1,0,-1)).r cs,0,0,0,(0,0))=_:=f4
   rw [f4]
   simp only [Option.bind_some]
   have f2:((s.tell (g,8,(s.instr g).2.1,0,-1)).offers g s.ev (selAt s.p (s.instr g).2.1).1).gs=s.gs:=f2
   rw [Yei (g:=g) ((s.tell (g,8,(s.instr g).2.1,0,-1)).offers g s.ev (selAt s.p (s.instr g).2.1).1) cs' (by rw [f2]; exact r.hg) (by rw [f2]; omega)]
   exact ⟨cs',f3,rfl⟩
 ·rw [if_pos ck,bif_t (decide_eq_true (by have:=hk ck; omega))]
  have hk:=hk ck
  have hcz:=Y2k h.rp hsb hk
  rw [← h.cl] at hcz
  have hb2:inb k (selAt s.p (s.instr g).2.1).1.length=true:=inbL.2 hk
  rw [bif_t hb2]
  obtain ⟨cs',r1,e1⟩:=Ydf (s:=s.tell (g,8,(s.instr g).2.1,0,-1)) (x:=(g,k,s.ev)) (k:=(caseAt s.p (s.instr g).2.1 k).2) (b:=(caseAt s.p (s.instr g).2.1 k).1) hr (h.tell _) hcz r.hg r.st ⟨r.hg.1,hk.1,hb.2.1⟩ (hs _ (Y92 (by omega) zA)) (.inl ⟨hop,hk.1,hk.2,rfl⟩) ((hb.tell _).le (by omega))
  refine ⟨cs',r1,?_⟩
  rw [e1]
  rfl
theorem Ydv {cs:List Ch} (hr:RelCs cs s.cs) (h:GI s (-1)) (i:In) (l:List W) (hl:l.length ≤ 64) (hb:s.Bd 80) (hw:∀ x ∈ l,s.fitW (-1) x i.2.1 false) :
  ∃ cs',RelCs cs' (s.shutL i.2.1 l).cs∧loop Zcw (l,l,(l.length:Int),0,s.r cs,i,0,0,0,(0,0))=some ((s.shutL i.2.1 l).r cs',0,0,0,(0,0)):=by
 let S:=(MS × List Int) × List Ch
 let P:Nat→S→Prop:=fun n q=>RelCs q.2 q.1.1.cs∧GI q.1.1 (-1)∧q.1.1.Bd (80 - n)∧(∀ y,y ∈ q.1.2 ↔ ∃ w ∈ l.take n,w.1=y) ∧
  (∀ j,n ≤ j→j < l.length→(l.getD j zeroW).1 ∉ q.1.2→q.1.1.fitW (-1) (l.getD j zeroW) i.2.1 false)
 let nx:Nat→S→S:=fun n q=>(MS.shutS i.2.1 l n q.1,if (l.getD n zeroW).1 ∈ q.1.2 then q.2 else q.2.map fun c=>leaveC c (l.getD n zeroW).1)
 have key:=Y8d (f:=Zcw) l.length (fun n (q:S)=>(l,l,(l.length:Int),(n:Int),q.1.1.r q.2,i,0,0,0,(0,0))) nx P (fun q=>(q.1.1.r q.2,0,0,0,(0,0))) (by
   rintro n ⟨⟨q,seen⟩,qc⟩ hn ⟨p1,p2,p3,p4,p5⟩
   simp only at p1 p2 p3 p4 p5
   have hx:=p5 n (Nat.le_refl _) hn
   have hge:getAt ((0:Int),((0:Int),(0:Int))) l (toN (n:Int))=l.getD n zeroW:=by rw [Y6a]; rfl
   have hcut:cut l (toN 0) (toN (n:Int) - toN 0)=l.take n:=by unfold cut toN; simp
   have hlt:(l.take n).length=n:=by rw [List.length_take]; omega
   have htk:l.take (n+1)=l.take n++[l.getD n zeroW]:=by rw [← List.take_append_getElem hn,Y6c hn]
   have hseen:∀ y,y ∈ (l.getD n zeroW).1 :: seen ↔ ∃ w ∈ l.take (n+1),w.1=y:=by
    intro y
    rw [htk,List.mem_cons,p4 y]
    constructor
    ·rintro (e | ⟨w,hw,e⟩)
     ·exact ⟨_,List.mem_append_right _ (List.mem_singleton.2 rfl),e.symm⟩
     ·exact ⟨w,List.mem_append_left _ hw,e⟩
    ·rintro ⟨w,hw,e⟩
     rcases List.mem_append.1 hw with q | q
     ·exact .inr ⟨w,q,e⟩
     ·rw [List.mem_singleton.1 q] at e; exact .inl e.symm
   have hs0:sub3 0 (n:Int) l.length=true:=by unfold sub3; simp; omega
   show Zcw (l,l,(l.length:Int),(n:Int),q.r qc,i,0,0,0,(0,0))=some (.inl (l,l,(l.length:Int),((n+1:Nat):Int),_))∧P (n+1) (nx n ((q,seen),qc))
   unfold Zcw
   simp only
   rw [bif_t (decide_eq_true (by omega)),bif_t (Y6r hn),bif_t hs0]
   simp only [hge,hcut]
   rw [Yc5 _ _ (by rw [hlt]; omega),wrapI (n:=(n:Int)+1) (by omega) (by omega)]
   simp only [Option.bind_some]
   by_cases c:(l.getD n zeroW).1 ∈ seen
   ·obtain ⟨w,hw1,hw2⟩:=(p4 _).1 c
    have hlt2:((l.take n).filter (notG (l.getD n zeroW).1)).length < n:=by
     have:=(List.length_filter_lt_length_iff_exists (p:=notG (l.getD n zeroW).1) (l:=l.take n)).2 ⟨w,hw1,by simp [notG,hw2]⟩
     omega
    have hnx:nx n ((q,seen),qc)=((q,seen),qc):=by
     show (MS.shutS i.2.1 l n (q,seen),if (l.getD n zeroW).1 ∈ seen then qc else _)=_
     unfold MS.shutS
     rw [if_pos c,if_pos c]
    rw [hnx,bif_f (beq_eq_false_iff_ne.2 (by omega))]
    refine ⟨rfl,p1,p2,p3.le (by omega),fun y=>?_,fun j h1 h2 h3=>p5 j (by omega) h2 h3⟩
    refine Iff.trans ⟨fun z=>List.mem_cons_of_mem _ z,fun z=>?_⟩ (hseen y)
    rcases List.mem_cons.1 z with e | e
    ·rw [e]; exact c
    ·exact e
   ·have hall:(l.take n).filter (notG (l.getD n zeroW).1)=l.take n:=by
     rw [List.filter_eq_self]
     intro w hw
     have:w.1 ≠ (l.getD n zeroW).1:=fun e=>c ((p4 _).2 ⟨w,hw,e⟩)
     simpa [notG] using this
    have hf:=hx c
    have hd:=p2.done_ok hf
    have hnx:nx n ((q,seen),qc)=((q.done (l.getD n zeroW) i.2.1 0 true,(l.getD n zeroW).1 :: seen),qc.map fun c=>leaveC c (l.getD n zeroW).1):=by
     show (MS.shutS i.2.1 l n (q,seen),if (l.getD n zeroW).1 ∈ seen then qc else _)=_
     unfold MS.shutS
     rw [if_neg c,if_neg c]
    have hqgl:=p2.gl
    have hdx:=Ybw q qc p1 (l.getD n zeroW) i.2.1 0 true hd (p3.le (by omega)) (by omega) (fun _=>⟨rfl,Yf3 hf.2⟩)
    rw [hnx,hall,hlt,bif_t (beq_iff_eq.2 rfl),hdx]
    refine ⟨rfl,?_,p2.done hf _ _ _ (-1) (.inl rfl),Y3z (show q.Bd ((80 - (n+1))+1) from p3.le (by omega)) _ _ _ _,hseen,fun j h1 h2 h3=>?_⟩
    ·show RelCs _ (q.done (l.getD n zeroW) i.2.1 0 true).cs
     rw [Y40]; exact Y7q p1 _
    ·have h3:(l.getD j zeroW).1 ∉ (l.getD n zeroW).1 :: seen:=h3
     rw [List.mem_cons,not_or] at h3
     have hy:=p5 j (by omega) h2 h3.2
     have eg:=done_g q (l.getD n zeroW) ⟨hf.1.1,hf.1.2.1⟩ i.2.1 0 true hy.1.1 h3.1
     refine ⟨⟨hy.1.1,?_,?_⟩,?_⟩
     ·show (l.getD j zeroW).1 < ((q.done (l.getD n zeroW) i.2.1 0 true).gs.length:Int)
      rw [Y42 q _ ⟨hf.1.1,hf.1.2.1⟩]; exact hy.1.2.1
     ·show ((q.done (l.getD n zeroW) i.2.1 0 true).g _).2.2.1=1 ∨ _
      rw [eg]; exact hy.1.2.2
     ·show fitI (q.done (l.getD n zeroW) i.2.1 0 true).p ((q.done (l.getD n zeroW) i.2.1 0 true).instr _) _ _ _
      unfold MS.instr
      rw [eg,done_p]; exact hy.2) (by
   rintro ⟨⟨q,seen⟩,qc⟩ -
   unfold Zcw
   simp only
   rw [bif_f (decide_eq_false (by omega))]) ((s,[]),cs) ⟨hr,h,hb,fun y=>by show y ∈ ([]:List Int) ↔ ∃ w ∈ l.take 0,w.1=y; simp,fun j _ hj _=>hw _ (by rw [Y6c hj]; exact List.getElem_mem hj)⟩
 have hpi:(upto nx 0 l.length ((s,[]),cs)).1=upto (MS.shutS i.2.1 l) 0 l.length (s,[]):=Yh8 (fun q:S=>q.1) nx (MS.shutS i.2.1 l) (fun _ _=>rfl) l.length 0 ((s,[]),cs)
 obtain ⟨k1,k2,k3,_⟩:=key
 rw [hpi] at k1 k2
 exact ⟨_,k2,k1⟩
theorem Ydw {cs:List Ch} (hr:RelCs cs s.cs) (h:GI s (-1)) (r:Rdy s g) (hb:s.Bd 100) (hop:(s.instr g).1=3) :
  ∃ cs',RelCs cs' (s.shutO g (s.instr g).2.1).cs∧Z6l (s.r cs,g,s.instr g)=some ((s.shutO g (s.instr g).2.1).r cs'):=by
 have hi:=r.inok h
 have ha:0 ≤ (s.instr g).2.1∧(s.instr g).2.1 < s.cs.length:=by
  have h1:=hi.2.1
  rw [hop] at h1
  rw [h.cl]
  exact h1
 have hpc:=r.pc h
 have hgl:=h.gl
 have hcap:=Y2j h.rp
 have hscl:=h.cl
 have hkn:(s.instr g).2.1.toNat < s.cs.length:=by omega
 have hrel:=hr.2 _ hkn
 have hok:=h.chok ha
 have hch:=hrel.ok.2 hok
 have hac:inb (s.instr g).2.1 cs.length=true:=inbL.2 (by rw [hr.1]; exact ha)
 have hcl:=Ybv (cs.getD (s.instr g).2.1.toNat zeroC) hch.2.1
 unfold MS.shutO Z6l
 simp only [chz_eq,Ydh]
 rw [bif_t hac,hcl]
 simp only [Option.bind_some]
 rcases hrel.close with ⟨e,q⟩ | ⟨q,c',e,hc'⟩
 ·have q:(s.ch (s.instr g).2.1).cap < 0 ∨ (s.ch (s.instr g).2.1).closed=true ∨ (s.ch (s.instr g).2.1).sends ≠ []:=q
  rw [if_pos q,e]
  exact ⟨cs,hr,rfl⟩
 ·have q:¬ ((s.ch (s.instr g).2.1).cap < 0 ∨ (s.ch (s.instr g).2.1).closed=true ∨ (s.ch (s.instr g).2.1).sends ≠ []):=q
  rw [if_neg q,e]
  simp only [cond_false]
  obtain ⟨A,hA⟩:∃ A,A=(s.instr g).2.1:=⟨_,rfl⟩
  have q1:¬ (s.ch (s.instr g).2.1).cap < 0:=fun z=>q (.inl z)
  have q2:(s.ch (s.instr g).2.1).sends=[]:=by
   cases hz:(s.ch (s.instr g).2.1).sends with
   | nil=>rfl
   | cons a l=>exact absurd (.inr (.inr (by rw [hz]; simp))) q
  have hcs:∀ j:Nat,(s.csset (s.instr g).2.1 (s.ch (s.instr g).2.1).close).ch j=if j=(s.instr g).2.1.toNat then (s.ch (s.instr g).2.1).close else s.ch j:=fun j=>Y6d hkn zA _ j
  have hkk:(((s.instr g).2.1.toNat:Nat):Int)=(s.instr g).2.1:=by omega
  have h1:GI (s.csset (s.instr g).2.1 (s.ch (s.instr g).2.1).close) (-1):=by
   refine ⟨h.rp,h.gl,h.gor,by show (s.cs.set _ _).length=_; rw [List.length_set]; exact h.cl,fun a ha=>?_,fun j hj=>?_,fun j hj=>?_,h.ll,h.lok,h.lw,h.ol,h.ook,h.ow⟩
   ·rcases List.mem_or_eq_of_mem_set ha with z | z
    ·exact h.ch a z
    ·rw [z]; exact hok.close q1 q2
   ·have hj:j < s.cs.length:=by have:j < (s.cs.set (toN (s.instr g).2.1) (s.ch (s.instr g).2.1).close).length:=hj; simpa using this
    rw [hcs]
    split
    ·rename_i z
     have:=h.cc _ hkn
     rw [hkk] at this
     rw [z]; exact this
    ·exact h.cc j hj
   ·have hj:j < s.cs.length:=by have:j < (s.cs.set (toN (s.instr g).2.1) (s.ch (s.instr g).2.1).close).length:=hj; simpa using this
    rw [hcs]
    split
    ·refine ⟨fun y hy=>?_,fun y hy=>by cases hy⟩
     have hy:y ∈ (s.ch (s.instr g).2.1).sends:=hy
     rw [q2] at hy; cases hy
    ·exact h.cw j hj
  have h2:GI (((s.csset (s.instr g).2.1 (s.ch (s.instr g).2.1).close).tell (g,7,(s.instr g).2.1,0,-1)).on g) (-1):=(h1.tell _).on ⟨r.hg,r.st⟩
  have hfit:∀ x ∈ (s.ch (s.instr g).2.1).recvs,(((s.csset (s.instr g).2.1 (s.ch (s.instr g).2.1).close).tell (g,7,(s.instr g).2.1,0,-1)).on g).fitW (-1) x (s.instr g).2.1 false:=by
   intro x hx
   have hf:=h.cw' ha false x hx
   have hst:(s.g x.1).2.2.1=1:=hf.1.2.2.resolve_right (fun q=>by have:=hf.1.1; omega)
   have hne:x.1 ≠ g:=fun q=>by rw [q] at hst; have:=r.st; omega
   have eg:(((s.csset (s.instr g).2.1 (s.ch (s.instr g).2.1).close).tell (g,7,(s.instr g).2.1,0,-1)).on g).g x.1=s.g x.1:=on_g _ r.hg.1 hf.1.1 hne
   refine ⟨⟨hf.1.1,by rw [on_len]; exact hf.1.2.1,by rw [eg]; exact .inl hst⟩,?_⟩
   show fitI s.p (inAt s.p (MS.g _ x.1)) _ _ _
   rw [eg]
   exact hf.2
  obtain ⟨cs',k2,k3⟩:=Ydv (cs:=cs.set (toN (s.instr g).2.1) c') (hr.set hc') h2 (s.instr g) (s.ch (s.instr g).2.1).recvs hok.rw.2.1 ((hb.le (show 81 ≤ 100 by omega)).tell (g,7,(s.instr g).2.1,0,-1)) hfit
  refine ⟨cs',k2,?_⟩
  rw [show Z5l (s.r cs,(s.instr g).2.1,c')=some ((s.csset (s.instr g).2.1 (s.ch (s.instr g).2.1).close).r (cs.set (toN (s.instr g).2.1) c')) from Ybt s cs (s.instr g).2.1 ha.1 (by rw [hr.1]; omega) c']
  simp only [Option.bind_some]
  rw [Ye5 (s.csset (s.instr g).2.1 (s.ch (s.instr g).2.1).close) (cs.set (toN (s.instr g).2.1) c') (g,7,(s.instr g).2.1,0,-1) hb]
  simp only [Option.bind_some]
  rw [ron_x (g:=g) ((s.csset (s.instr g).2.1 (s.ch (s.instr g).2.1).close).tell (g,7,(s.instr g).2.1,0,-1)) (cs.set (toN (s.instr g).2.1) c') r.hg (by show s.gs.length ≤ 1000; omega) (h.gok r.hg) (by show (s.g g).2.2.1 ≠ 2; have:=r.st; omega) (by have:=hpc.2.1; have:=hpc.2.2; show (s.g g).2.1 ≤ 1000; omega)]
  simp only [Option.bind_some]
  show ((loop Zcw ((s.ch (s.instr g).2.1).recvs,(s.ch (s.instr g).2.1).recvs,((s.ch (s.instr g).2.1).recvs.length:Int),0,_)).bind _)=_
  rw [k3]
  rfl
end
end Go.Proofs.YthdlpkdojipfhaaGreat.VX.VxM_M
set_option linter.unusedVariables false
set_option linter.unusedSimpArgs false
namespace Go.Proofs.YthdlpkdojipfhaaGreat.VX.VxM_M
open Go.Proofs
theorem Ye3 (l:Lk) (w:W) (hl:wOK l.2) (hn:newW l.2 w):Z55 (l,w)=some (if l.1=false then ((true,[]),true,0) else ((true,l.2++[w]),false,0)):=by
 unfold Z55
 simp only
 have hlen:=hl.2.1
 cases h1:l.1 with
 | false=>rfl
 | true =>
  rw [bif_f (by rfl),has_eq _ _ _ (by omega)]
  simp only [Option.bind_some]
  have h2:(w.1,w.2.1) ∉ l.2.map keyW:=hn.1
  have h3:=hn.2
  rw [bif_f (decide_eq_false h2),bif_f (beq_eq_false_iff_ne.2 (by omega)),bif_t (Y5j.2 (by simp; omega)),bif_t (Y5j.2 (by simp; omega))]
  rfl
section
variable {s:MS} {g:Int}
theorem ron_r (h:GI s (-1)) (r:Rdy s g) (s':MS) (e1:s'.p=s.p) (e2:s'.gs=s.gs) (cs:List Ch):Z65 (s'.r cs,g)=some ((s'.on g).r cs):=by
 have hgl:=h.gl
 have hpc:=r.pc h
 have e3:s'.g g=s.g g:=by unfold MS.g; rw [e2]
 exact ron_x s' cs (by rw [e2]; exact r.hg) (by rw [e2]; omega) (by rw [e1,e3]; exact h.gok r.hg) (by rw [e3]; have:=r.st; omega) (by rw [e3]; have:=hpc.2.1; have:=hpc.2.2; omega)
theorem Yeh (h:GI s (-1)) (r:Rdy s g) (s':MS) (e2:s'.gs=s.gs) (cs:List Ch):Z6x (s'.r cs,g)=some ((s'.wait g).r cs):=by
 have hgl:=h.gl
 exact Yei s' cs (by rw [e2]; exact r.hg) (by rw [e2]; omega)
theorem lk_len {p:Pg} (hp:RightP p):p.2.1 ≤ 1000∧p.2.2.1 ≤ 1000:=by
 have:=hp.sizes
 unfold Yfl at this
 simp only [Bool.and_eq_true,decide_eq_true_eq,Y6p] at this
 omega
theorem Ye4 {cs:List Ch} (h:GI s (-1)) (r:Rdy s g) (hb:s.Bd 4) (hop:(s.instr g).1=5):Z6r (s.r cs,g,s.instr g)=some ((s.lock g (s.instr g).2.1).r cs):=by
 have ha:=r.la h (.inl hop)
 have hlo:=h.lokk ha
 have hlw:=h.lw' ha
 have hnw:newW (s.lk (s.instr g).2.1).2 (g,0,s.ev):=Ybm h hlo.1 (fun y hy=>⟨(hlw y hy).1,(hlw y hy).2.1⟩) (by have:=r.st; omega)
 have htk:=Ye3 (s.lk (s.instr g).2.1) (g,0,s.ev) hlo.1 hnw
 have hll:=h.ll
 have hln:=(lk_len h.rp).1
 generalize hA:(s.instr g).2.1=A at *
 have ha':inb A (s.tell (g,10,A,0,-1)).ls.length=true:=inbL.2 ha
 unfold Z6r
 simp only [Ydh,Option.bind_some]
 rw [hA,Ye5 s cs (g,10,A,0,-1) hb]
 simp only [Option.bind_some,lkz_eq]
 rw [bif_t ha',show (s.tell (g,10,A,0,-1)).ls.getD A.toNat (false,[])=s.lk A from rfl,htk]
 simp only [Option.bind_some]
 unfold MS.lock
 by_cases c1:(s.lk A).1=false
 ·rw [if_pos c1,if_pos c1,Yd1 (s.tell (g,10,A,0,-1)) cs A ha.1 (by show s.ls.length ≤ 1000; omega)]
  simp only [Option.bind_some,Bool.not_true,cond_false]
  rw [Ye5 ((s.tell (g,10,A,0,-1)).lset A (true,[])) cs (g,11,A,0,s.ev) (hb.tell (g,10,A,0,-1))]
  simp only [Option.bind_some]
  rw [ron_r h r (((s.tell (g,10,A,0,-1)).lset A (true,[])).tell (g,11,A,0,s.ev)) rfl rfl]
  rfl
 ·rw [if_neg c1,if_neg c1,Yd1 (s.tell (g,10,A,0,-1)) cs A ha.1 (by show s.ls.length ≤ 1000; omega)]
  simp only [Option.bind_some,Bool.not_false,cond_true]
  rw [Yeh h r ((s.tell (g,10,A,0,-1)).lset A (true,(s.lk A).2++[(g,0,s.ev)])) rfl]
  rfl
theorem Ycr {cs:List Ch} (h:GI s (-1)) (r:Rdy s g) (hb:s.Bd 4) (hop:(s.instr g).1=6):Z5t (s.r cs,g,s.instr g)=some ((s.unlock g (s.instr g).2.1).r cs):=by
 have ha:=r.la h (.inr hop)
 have hlo:=h.lokk ha
 have hlw:=h.lw' ha
 have hll:=h.ll
 have hgl:=h.gl
 have hln:=(lk_len h.rp).1
 generalize hA:(s.instr g).2.1=A at *
 have ha':inb A s.ls.length=true:=inbL.2 ha
 unfold Z5t
 simp only [Ydh,Option.bind_some,lkz_eq]
 rw [hA,bif_t ha',show s.ls.getD A.toNat (false,[])=s.lk A from rfl]
 unfold MS.unlock
 by_cases c1:(s.lk A).1=false
 ·rw [c1,if_pos rfl]
  rfl
 have c1':(s.lk A).1=true:=by simpa using c1
 rw [c1',if_neg (by simp),bif_f (by rfl),bif_t ha',Yc8]
 simp only [Option.bind_some]
 rw [Yd1 s cs A ha.1 (by omega)]
 simp only [Option.bind_some]
 rw [Ye5 (s.lset A (given (s.lk A).2).1) cs (g,12,A,0,-1) hb]
 simp only [Option.bind_some]
 rw [ron_r h r ((s.lset A (given (s.lk A).2).1).tell (g,12,A,0,-1)) rfl rfl]
 simp only [Option.bind_some]
 by_cases c2:(given (s.lk A).2).2.2=true
 ·rw [if_pos c2,bif_t c2]
  have hx:∃ x l,(s.lk A).2=x :: l∧(given (s.lk A).2).2.1=x:=by
   cases hq:(s.lk A).2 with
   | nil=>rw [hq] at c2; cases c2
   | cons x l=>exact ⟨x,l,rfl,rfl⟩
  obtain ⟨x,l,e1,e3⟩:=hx
  have hf:=hlw x (by rw [e1]; exact List.mem_cons_self ..)
  have hst:(s.g x.1).2.2.1=1:=hf.1.2.2.resolve_right (fun q=>by have:=hf.1.1; omega)
  have hne:x.1 ≠ g:=fun q=>by rw [q] at hst; have:=r.st; omega
  have hgx:(((s.lset A (given (s.lk A).2).1).tell (g,12,A,0,-1)).on g).g x.1=s.g x.1:=on_g _ r.hg.1 hf.1.1 hne
  have hok:gOK s.p (s.g x.1):=h.gok ⟨hf.1.1,hf.1.2.1⟩
  have hlen:(((s.lset A (given (s.lk A).2).1).tell (g,12,A,0,-1)).on g).gs.length=s.gs.length:=on_len _ _
  rw [e3,Ye5 (((s.lset A (given (s.lk A).2).1).tell (g,12,A,0,-1)).on g) cs (x.1,11,A,0,x.2.2) (hb.tell (g,12,A,0,-1))]
  simp only [Option.bind_some]
  have hbl:=Y22 h.rp hok
  have hpc:=hok.2.2.2.1
  rw [ron_x (g:=x.1) ((((s.lset A (given (s.lk A).2).1).tell (g,12,A,0,-1)).on g).tell (x.1,11,A,0,x.2.2)) cs (by show 0 ≤ x.1∧x.1 < ((((s.lset A (given (s.lk A).2).1).tell (g,12,A,0,-1)).on g).gs.length:Int); rw [hlen]; exact ⟨hf.1.1,hf.1.2.1⟩) (by show (((s.lset A (given (s.lk A).2).1).tell (g,12,A,0,-1)).on g).gs.length ≤ 1000; rw [hlen]; omega)
   (by show gOK s.p ((((s.lset A (given (s.lk A).2).1).tell (g,12,A,0,-1)).on g).g x.1); rw [hgx]; exact hok) (by show ((((s.lset A (given (s.lk A).2).1).tell (g,12,A,0,-1)).on g).g x.1).2.2.1 ≠ 2; rw [hgx]; omega) (by show ((((s.lset A (given (s.lk A).2).1).tell (g,12,A,0,-1)).on g).g x.1).2.1 ≤ 1000; rw [hgx]; omega)]
  rfl
 ·rw [if_neg c2,bif_f (by simpa using c2)]
theorem Ydy (s:MS) (cs:List Ch) (hg:0 ≤ g∧g < s.gs.length) (hl:s.gs.length ≤ 1000) (hok:gOK s.p (s.g g)) (t A els:Int) (hA:A=(s.instr g).2.1) (hE:els=(s.instr g).2.2) (he:els ≤ (blk s.p (s.g g).1).length) {m:Nat} (hb:s.Bd m) :
  ((Z6t (s.r cs,g,15,A,0,t)).bind fun r=>Z6v (r,g,els))=some ((s.skip g t).r cs):=by
 subst hA hE
 rw [Ye5 s cs (g,15,(s.instr g).2.1,0,t) hb]
 simp only [Option.bind_some]
 rw [rto_x (g:=g) (s.tell (g,15,(s.instr g).2.1,0,t)) cs _ hg hl hok.1 hok.2.1 he]
 rfl
theorem rdo_x {cs:List Ch} (h:GI s (-1)) (r:Rdy s g) (hb:s.Bd 4) (hop:(s.instr g).1=7):Z5n (s.r cs,g,s.instr g)=some ((s.doO g (s.instr g).2.1).r cs):=by
 have ha:=r.oa h (.inl hop)
 have hoo:=h.ookk ha
 have hw:isW (g,0,s.ev):=⟨r.hg.1,by show (0:Int) ≤ 0; omega,hb.2.1⟩
 have hol:=h.ol
 have hgl:=h.gl
 have hln:=(lk_len h.rp).2
 have hdo:=Yc4 (s.oc (s.instr g).2.1) (g,0,s.ev) (by have:=hoo.2.1.2.1; omega) hoo hw
 have hst2:(s.g g).2.2.1 ≠ 2:=by have:=r.st; omega
 have hob:=once_b h r.hg hst2 hop
 obtain ⟨A,hA⟩:∃ A,A=(s.instr g).2.1:=⟨_,rfl⟩
 rw [← hA] at ha hoo hdo ⊢
 have ha':inb A (s.tell (g,13,A,0,-1)).os.length=true:=inbL.2 ha
 unfold Z5n MS.doO
 simp only [Ydh,Option.bind_some]
 rw [← hA,Ye5 s cs (g,13,A,0,-1) hb]
 simp only [Option.bind_some,ocz_eq]
 rw [bif_t ha',show (s.tell (g,13,A,0,-1)).os.getD A.toNat zeroO=s.oc A from rfl,hdo]
 simp only [Option.bind_some]
 generalize hd:Go.Proofs.YthdlpkdojipfhaaGreat.VX.VxM_M.done (s.oc A) (g,0,s.ev)=d at *
 by_cases c:d.2.2=0
 ·rw [if_neg (fun q=>q c),bif_f (by simpa using c),Yd5 (s.tell (g,13,A,0,-1)) cs A ha.1 (by show s.os.length ≤ 1000; omega)]
  simp only [Option.bind_some]
  by_cases d0:d.2.1=0
  ·rw [if_pos d0,bif_t (by simpa using d0),ron_r h r ((s.tell (g,13,A,0,-1)).oset A d.1) rfl rfl]
   rfl
  rw [if_neg d0,bif_f (by simpa using d0)]
  by_cases d1:d.2.1=1
  ·rw [if_pos d1,bif_t (by simpa using d1),Yeh h r ((s.tell (g,13,A,0,-1)).oset A d.1) rfl]
   rfl
  ·rw [if_neg d1,bif_f (by simpa using d1)]
   have hsk:=Ydy (g:=g) ((s.tell (g,13,A,0,-1)).oset A d.1) cs r.hg (by show s.gs.length ≤ 1000; omega) (h.gok r.hg) s.ev A (s.instr g).2.2 hA rfl hob.2 (hb.tell (g,13,A,0,-1))
   rw [← hsk]
   rw [Ye5 ((s.tell (g,13,A,0,-1)).oset A d.1) cs (g,15,A,0,s.ev) (hb.tell (g,13,A,0,-1))]
   simp only [Option.bind_some]
   exact Option.bind_fun_some _
 ·rw [if_pos c,bif_t (by simpa using c),Yeh h r (s.tell (g,13,A,0,-1)) rfl]
  rfl
theorem Ydz {cs:List Ch} (h:GI s (-1)) (i:In) (a:Int) (hia:i.2.1=a) (l:List W) (hl:l.length ≤ 64) (hb:s.Bd 80) (hw:∀ x ∈ l,s.fitL (-1) x 7 a) (hd:(l.map keyW).Nodup) (ha:∀ k:Nat,k < s.os.length→(k:Int)=a→(s.oc k).2.2=[]) :
  loop Zci (l,(l.length:Int),0,s.r cs,i,0,0,0,(0,0))=some ((s.skips l).r cs,0,0,0,(0,0)):=by
 have key:=Y8d (f:=Zci) l.length (fun k s=>(l,(l.length:Int),(k:Int),s.r cs,i,0,0,0,(0,0))) (fun k s=>s.skip (l.getD k zeroW).1 (l.getD k zeroW).2.2)
  (fun k s=>GI s (-1)∧s.Bd (80 - k)∧(∀ j,k ≤ j→j < l.length→s.fitL (-1) (l.getD j zeroW) 7 a)∧(∀ k:Nat,k < s.os.length→(k:Int)=a→(s.oc k).2.2=[])) (fun s=>(s.r cs,0,0,0,(0,0))) (by
   rintro k s hk ⟨q1,q2,q3,q4⟩
   have hx:=q3 k (Nat.le_refl _) hk
   have hget:l.getD k zeroW=l[k]:=Y6c hk _
   have hst:(s.g (l.getD k zeroW).1).2.2.1=1:=hx.1.2.2.resolve_right (fun q=>by have:=hx.1.1; omega)
   have hgr:0 ≤ (l.getD k zeroW).1∧(l.getD k zeroW).1 < s.gs.length:=⟨hx.1.1,hx.1.2.1⟩
   have hst2:(s.g (l.getD k zeroW).1).2.2.1 ≠ 2:=by omega
   have hgl:=q1.gl
   refine ⟨?_,q1.skip (g:=(l.getD k zeroW).1) hgr hst2 hx.2.2.1 _ (q1.onone hx (fun j hj e y hy=>by rw [q4 j hj e] at hy; cases hy)),(show s.Bd ((80 - (k+1))+1) from q2.le (by omega)).tell _,?_,q4⟩
   ·unfold Zci
    simp only
    have hge:getAt ((0:Int),((0:Int),(0:Int))) l (toN (k:Int))=l.getD k zeroW:=by rw [Y6a]; rfl
    rw [bif_t (decide_eq_true (by omega)),bif_t (Y6r hk)]
    simp only [hge]
    have hob:=once_b q1 hgr hst2 hx.2.2.1
    have hia2:a=(s.instr (l.getD k zeroW).1).2.1:=hx.2.2.2.symm
    rw [hia,hia2,Ye5 s cs ((l.getD k zeroW).1,15,(s.instr (l.getD k zeroW).1).2.1,0,(l.getD k zeroW).2.2) q2]
    simp only [Option.bind_some]
    have hin:Z5x ((s.tell ((l.getD k zeroW).1,15,(s.instr (l.getD k zeroW).1).2.1,0,(l.getD k zeroW).2.2)).w cs,(l.getD k zeroW).1)=some (s.instr (l.getD k zeroW).1):=Ycx (g:=(l.getD k zeroW).1) (s.tell ((l.getD k zeroW).1,15,(s.instr (l.getD k zeroW).1).2.1,0,(l.getD k zeroW).2.2)) cs hgr (q1.gok hgr) hst2
    rw [hin]
    simp only [Option.bind_some]
    have hok:=q1.gok hgr
    rw [rto_x (g:=(l.getD k zeroW).1) (s.tell ((l.getD k zeroW).1,15,(s.instr (l.getD k zeroW).1).2.1,0,(l.getD k zeroW).2.2)) cs _ hgr (by show s.gs.length ≤ 1000; omega) hok.1 hok.2.1 hob.2,wrapI (by omega) (by omega)]
    rfl
   ·intro j hj1 hj2
    have hy:=q3 j (by omega) hj2
    have hne:(l.getD j zeroW).1 ≠ (l.getD k zeroW).1:=by
     intro e
     have e2:keyW (l.getD j zeroW)=keyW (l.getD k zeroW):=by unfold keyW; rw [e,hy.2.1,hx.2.1]
     rw [Y6c hj2,Y6c hk] at e2
     have h1:(l.map keyW)[j]'(by simpa using hj2)=(l.map keyW)[k]'(by simpa using hk):=by simpa using e2
     have:=(List.getElem_inj hd).1 h1
     omega
    have eg:=skip_g (g:=(l.getD k zeroW).1) s (l.getD k zeroW).2.2 hgr.1 hy.1.1 hne
    refine ⟨⟨hy.1.1,by rw [Yfo]; exact hy.1.2.1,by rw [eg]; exact hy.1.2.2⟩,hy.2.1,?_⟩
    unfold MS.instr
    rw [eg]
    exact hy.2.2) (by
   rintro s -
   unfold Zci
   simp only
   rw [bif_f (decide_eq_false (by omega))]) s ⟨h,hb,fun j _ hj=>hw _ (by rw [Y6c hj]; exact List.getElem_mem hj),ha⟩
 exact key.1
theorem rend_x {cs:List Ch} (h:GI s (-1)) (r:Rdy s g) (hb:s.Bd 100) (hop:(s.instr g).1=8):Z5r (s.r cs,g,s.instr g)=some ((s.endO g (s.instr g).2.1).r cs):=by
 have ha:=r.oa h (.inr hop)
 have hoo:=h.ookk ha
 have how:=h.ow' ha
 have hol:=h.ol
 have hln:=(lk_len h.rp).2
 have hen:=Yc6 (s.oc (s.instr g).2.1) g
 obtain ⟨A,hA⟩:∃ A,A=(s.instr g).2.1:=⟨_,rfl⟩
 rw [← hA] at ha hoo how hen ⊢
 unfold MS.endO Z5r
 simp only [Ydh,ocz_eq]
 rw [← hA,bif_t (inbL.2 ha),show s.os.getD A.toNat zeroO=s.oc A from rfl,hen]
 simp only [Option.bind_some]
 by_cases c1:(s.oc A).1=1∧(s.oc A).2.1=g
 ·rw [if_pos c1,if_pos c1]
  simp only
  rw [bif_f (by rfl)]
  have h1:GI (s.oset A (2,0,[])) (-1):=h.oset ha ⟨by show (0:Int) ≤ 0; omega,⟨by simp,by simp,by simp⟩,.inr ⟨.inr rfl,rfl,rfl⟩⟩ (by simp)
  have h2:GI (((s.oset A (2,0,[])).tell (g,14,A,0,-1)).on g) (-1):=(h1.tell _).on ⟨r.hg,r.st⟩
  have hgx:∀ x ∈ (s.oc A).2.2,(((s.oset A (2,0,[])).tell (g,14,A,0,-1)).on g).fitL (-1) x 7 A:=by
   intro x hx
   have hf:=how x hx
   have hst:(s.g x.1).2.2.1=1:=hf.1.2.2.resolve_right (fun q=>by have:=hf.1.1; omega)
   have hne:x.1 ≠ g:=fun q=>by rw [q] at hst; have:=r.st; omega
   have eg:(((s.oset A (2,0,[])).tell (g,14,A,0,-1)).on g).g x.1=s.g x.1:=on_g _ r.hg.1 hf.1.1 hne
   refine ⟨⟨hf.1.1,by rw [on_len]; exact hf.1.2.1,by rw [eg]; exact .inl hst⟩,hf.2.1,?_⟩
   unfold MS.instr
   rw [eg]
   exact hf.2.2
  have hAn:A.toNat < s.os.length:=by omega
  have key:=Ydz (cs:=cs) h2 (s.instr g) A hA.symm (s.oc A).2.2 hoo.2.1.2.1 ((hb.le (show 81 ≤ 100 by omega)).tell (g,14,A,0,-1)) hgx hoo.2.1.2.2 (fun k hk e=>by
   show ((s.os.set (toN A) (2,0,[])).getD k zeroO).2.2=[]
   rw [show toN A=A.toNat from rfl,Y6d hAn,if_pos (by omega)])
  rw [Yd5 s cs A ha.1 (by omega)]
  simp only [Option.bind_some]
  rw [Ye5 (s.oset A (2,0,[])) cs (g,14,A,0,-1) hb]
  simp only [Option.bind_some]
  rw [ron_r h r ((s.oset A (2,0,[])).tell (g,14,A,0,-1)) rfl rfl]
  simp only [Option.bind_some]
  rw [key]
  rfl
 ·rw [if_neg c1,if_neg c1,bif_t (by rfl)]
theorem Ybs {cs:List Ch} (h:GI s (-1)) (r:Rdy s g) (hb:s.Bd 4) (hop:(s.instr g).1=9):Z5j (s.r cs,g,s.instr g)=some ((s.beginO g (s.instr g).2.1).r cs):=by
 have h1:=(r.inok h).2.1
 rw [hop] at h1
 have h1:0 ≤ (s.instr g).2.1∧(s.instr g).2.1 < (s.p.2.2.2.2.2.length:Int):=h1
 unfold MS.beginO Z5j
 simp only [Ydh,Option.bind_some]
 generalize (s.instr g).2.1=A at *
 by_cases c8:s.gs.length=8
 ·rw [if_pos c8,bif_t (by rw [c8]; rfl)]
 have hl:=h.gl
 let s2:MS:=(s.tell (g,1,s.gs.length,0,-1)).tell (s.gs.length,0,0,0,s.ev)
 have hgn:0 ≤ (s.gs.length:Int)∧(s.gs.length:Int) < ((s.gs++[(A,0,0,false)]).length:Int):=by simp; omega
 have hat:gAt (s.gs++[(A,0,0,false)]) (s.gs.length:Int)=(A,0,0,false):=by
  unfold gAt
  simp [List.getD]
 have hset:(s.gs++[(A,0,0,false)]).set (toN (s.gs.length:Int)) (gTo s.p (A,0,0,false) 0)=s.gs++[gTo s.p (A,0,0,false) 0]:=by
  rw [Yh1,List.set_append_right _ _ (Nat.le_refl _),Nat.sub_self]; rfl
 rw [if_neg c8,bif_f (by simp; omega),Ye5 s cs (g,1,s.gs.length,0,-1) hb]
 simp only [Option.bind_some]
 rw [Ye5 (s.tell (g,1,s.gs.length,0,-1)) cs (s.gs.length,0,0,0,s.ev) (hb.tell _)]
 simp only [Option.bind_some]
 rw [bif_t (Y5j.2 (by show 0+s.gs.length ≤ _; omega)),bif_t (Y5j.2 (by show s.gs.length+1 ≤ _; omega))]
 have hto:=rto_x (g:=(s.gs.length:Int)) (s2.add (A,0,0,false)) cs 0 hgn (by show (s.gs++[_]).length ≤ 1000; simp; omega) (by show 0 ≤ (gAt (s.gs++[(A,0,0,false)]) (s.gs.length:Int)).1; rw [hat]; exact h1.1) (by show (gAt (s.gs++[(A,0,0,false)]) (s.gs.length:Int)).1 < (s.p.2.2.2.2.2.length:Int); rw [hat]; exact h1.2) (by show (0:Int) ≤ ((List.length _:Nat):Int); omega)
 have hto2:(s2.add (A,0,0,false)).to (s.gs.length:Int) 0=s2.add (gTo s.p (A,0,0,false) 0):=by
  unfold MS.to
  show { s2 with gs:=(s.gs++[(A,0,0,false)]).set (toN (s.gs.length:Int)) (gTo s.p (gAt (s.gs++[(A,0,0,false)]) (s.gs.length:Int)) 0) }=_
  rw [hat,hset]
 rw [hto2] at hto
 have hto:Z6v (((s.p,[]++s.gs++(A,0,0,false) :: [],cs,s.ls,s.os,s2.ev,s.st),s2.L),(s.gs.length:Int),0)=some ((s2.add (gTo s.p (A,0,0,false) 0)).r cs):=hto
 rw [show Z6v _=some ((s2.add (gTo s.p (A,0,0,false) 0)).r cs) from hto]
 simp only [Option.bind_some]
 have hg3:(s2.add (gTo s.p (A,0,0,false) 0)).g g=s.g g:=by
  show (s.gs++[gTo s.p (A,0,0,false) 0]).getD g.toNat zGor=s.gs.getD g.toNat zGor
  have:g.toNat < s.gs.length:=by have:=r.hg; omega
  simp [List.getD,List.getElem?_append_left this]
 have hlen3:(s2.add (gTo s.p (A,0,0,false) 0)).gs.length=s.gs.length+1:=by show (s.gs++[_]).length=_; simp
 have hpc:=r.pc h
 rw [ron_x (g:=g) (s2.add (gTo s.p (A,0,0,false) 0)) cs (by rw [hlen3]; have:=r.hg; omega) (by rw [hlen3]; omega) (by rw [hg3]; exact h.gok r.hg) (by rw [hg3]; have:=r.st; omega) (by rw [hg3]; have:=hpc.2.1; have:=hpc.2.2; omega)]
 rfl
theorem Ycy {cs:List Ch} (h:GI s (-1)) (r:Rdy s g) (hop:(s.instr g).1=12 ∨ (s.instr g).1=13):Z5z (s.r cs,g,s.instr g)=some ((if (s.instr g).1=12 then s.to g (s.instr g).2.1 else s.orElse g (s.instr g).2.1).r cs):=by
 have h1:=(r.inok h).2.1
 have h2:0 ≤ (s.instr g).2.1∧(s.instr g).2.1 ≤ (blk s.p (s.g g).1).length:=by
  rcases hop with e | e <;> (rw [e] at h1; have h3:(s.instr g).2.1 < ((blk s.p (s.g g).1).length:Int)+1:=h1.2; omega)
 have hgl:=h.gl
 have hok:=h.gok r.hg
 have hto:=rto_x (g:=g) s cs (s.instr g).2.1 r.hg (by omega) hok.1 hok.2.1 h2.2
 unfold Z5z
 simp only [gAt_eq]
 by_cases c:(s.instr g).1=12
 ·rw [if_pos c,bif_t (by simpa using c),hto]; rfl
 ·rw [if_neg c,bif_f (by simpa using c),bif_t (inbL.2 r.hg)]
  unfold MS.orElse
  by_cases c1:(s.g g).2.2.2=true
  ·rw [if_pos c1,bif_t (show (gAt s.gs g).2.2.2=true from c1),hto]; rfl
  ·rw [if_neg c1,bif_f (show (gAt s.gs g).2.2.2=false from Bool.eq_false_iff.2 c1),ron_r h r s rfl rfl]; rfl
end
end Go.Proofs.YthdlpkdojipfhaaGreat.VX.VxM_M
set_option linter.unusedVariables false
set_option linter.unusedSimpArgs false
namespace Go.Proofs.YthdlpkdojipfhaaGreat.VX.VxM_M
open Go.Proofs
theorem skips_cs' (l:List W):∀ n k (s:MS),(upto (fun k s=>s.skip (l.getD k zeroW).1 (l.getD k zeroW).2.2) k n s).cs=s.cs
 | 0,k,s=>rfl
 | n+1,k,s=>(skips_cs' l n (k+1) (s.skip (l.getD k zeroW).1 (l.getD k zeroW).2.2)).trans rfl
theorem Yfp (l:List W) (s:MS):(upto (fun k s=>s.skip (l.getD k zeroW).1 (l.getD k zeroW).2.2) 0 l.length s).cs=s.cs:=skips_cs' l _ _ _
section
variable {s:MS}
theorem ract_x {cs:List Ch} (hr:RelCs cs s.cs) (h:GI s (-1)) {c:Cho} (hc:c ∈ s.chs) (hb:s.Bd 100) (hs:∀ a ∈ s.cs,a.sent < 1048576) :
  ∃ cs',RelCs cs' (s.act c).cs∧Z5h (s.r cs,c)=some ((s.act c).r cs'):=by
 obtain ⟨_,r,h1,h2⟩:=Y2y h hc
 have hi:=r.inok h
 have hb4:s.Bd 4:=hb.le (by omega)
 have hin:=Ycx (g:=c.1) s cs r.hg (h.gok r.hg) (by have:=r.st; omega)
 have hkr:(s.instr c.1).1=1 ∨ (s.instr c.1).1=2→0 ≤ (s.instr c.1).2.1∧(s.instr c.1).2.1 < s.cs.length:=by
  intro q
  have h1:=hi.2.1
  rw [h.cl]
  rcases q with q | q <;> (rw [q] at h1; exact h1)
 have hw:isW (c.1,0,s.ev):=⟨r.hg.1,by show (0:Int) ≤ 0; omega,hb.2.1⟩
 unfold Z5h
 simp only
 rw [hin]
 simp only [Option.bind_some]
 unfold MS.act
 by_cases c0:(s.instr c.1).1=0
 ·rw [if_pos c0,bif_t (by simpa using c0),ron_r h r s rfl rfl]
  exact ⟨cs,hr,rfl⟩
 rw [if_neg c0,bif_f (by simpa using c0)]
 by_cases c1:(s.instr c.1).1=1
 ·have hk:=hkr (.inl c1)
  rw [if_pos c1,bif_t (decide_eq_true (by omega))]
  unfold Z69
  simp only [Ydh]
  rw [bif_f (by rw [c1]; rfl)]
  simp only [Option.bind_some]
  rw [Ye5 s cs (c.1,2,(s.instr c.1).2.1,0,-1) hb]
  simp only [Option.bind_some]
  obtain ⟨cs',e1,e2⟩:=Ydf (s:=s.tell (c.1,2,(s.instr c.1).2.1,0,-1)) (x:=(c.1,0,s.ev)) (k:=(s.instr c.1).2.1) (b:=true) hr (h.tell _) hk r.hg r.st hw (hs _ (Y92 (by omega) zA)) (.inr ⟨c1,rfl,rfl⟩) ((hb4.tell _).le (by omega))
  rw [e2]
  exact ⟨cs',e1,rfl⟩
 rw [if_neg c1]
 by_cases c2:(s.instr c.1).1=2
 ·have hk:=hkr (.inr c2)
  rw [if_pos c2,bif_t (decide_eq_true (by omega))]
  unfold Z69
  simp only [Ydh]
  rw [bif_t (by rw [c2]; rfl)]
  simp only [Option.bind_some]
  rw [Ye5 s cs (c.1,4,(s.instr c.1).2.1,0,-1) hb]
  simp only [Option.bind_some]
  obtain ⟨cs',e1,e2⟩:=Ydf (s:=s.tell (c.1,4,(s.instr c.1).2.1,0,-1)) (x:=(c.1,0,s.ev)) (k:=(s.instr c.1).2.1) (b:=false) hr (h.tell _) hk r.hg r.st hw (hs _ (Y92 (by omega) zA)) (.inr ⟨c2,rfl,rfl⟩) ((hb4.tell _).le (by omega))
  rw [e2]
  exact ⟨cs',e1,rfl⟩
 rw [if_neg c2,bif_f (decide_eq_false (by have:=hi.1; omega))]
 by_cases c3:(s.instr c.1).1=3
 ·obtain ⟨cs',e1,e2⟩:=Ydw hr h r hb c3
  rw [if_pos c3,bif_t (by simpa using c3),e2]
  exact ⟨cs',e1,rfl⟩
 rw [if_neg c3,bif_f (by simpa using c3)]
 by_cases c4:(s.instr c.1).1=4
 ·obtain ⟨cs',e1,e2⟩:=rsel_x hr h r hb4 hs c.2 c4 (fun q=>(h1 q).2.1) (fun q=>h2 q c4)
  rw [if_pos c4,bif_t (by simpa using c4),e2]
  exact ⟨cs',e1,rfl⟩
 rw [if_neg c4,bif_f (by simpa using c4)]
 by_cases c5:(s.instr c.1).1=5
 ·rw [if_pos c5,bif_t (decide_eq_true (by omega))]
  unfold Z6p
  simp only
  rw [bif_t (by simpa using c5),Ye4 h r hb4 c5]
  exact ⟨cs,by unfold MS.lock; split <;> exact hr,rfl⟩
 rw [if_neg c5]
 by_cases c6:(s.instr c.1).1=6
 ·rw [if_pos c6,bif_t (decide_eq_true (by omega))]
  unfold Z6p
  simp only
  rw [bif_f (by simpa using c5),bif_t (by simpa using c6),Ycr h r hb4 c6]
  exact ⟨cs,by unfold MS.unlock; split; exact hr; split <;> exact hr,rfl⟩
 rw [if_neg c6]
 by_cases c7:(s.instr c.1).1=7
 ·rw [if_pos c7,bif_t (decide_eq_true (by omega))]
  unfold Z6p
  simp only
  rw [bif_f (by simpa using c5),bif_f (by simpa using c6),bif_t (by simpa using c7),rdo_x h r hb4 c7]
  exact ⟨cs,by unfold MS.doO; split; exact hr; split; exact hr; split <;> exact hr,rfl⟩
 rw [if_neg c7]
 by_cases c8:(s.instr c.1).1=8
 ·rw [if_pos c8,bif_t (decide_eq_true (by omega))]
  unfold Z6p
  simp only
  rw [bif_f (by simpa using c5),bif_f (by simpa using c6),bif_f (by simpa using c7),rend_x h r hb c8]
  refine ⟨cs,?_,rfl⟩
  unfold MS.endO
  split
  ·unfold MS.skips
   rw [Yfp]; exact hr
  ·exact hr
 rw [if_neg c8,bif_f (decide_eq_false (by have:=hi.1; omega))]
 by_cases c9:(s.instr c.1).1=9
 ·rw [if_pos c9,bif_t (by simpa using c9),Ybs h r hb4 c9]
  exact ⟨cs,by unfold MS.beginO; split <;> exact hr,rfl⟩
 rw [if_neg c9,bif_f (by simpa using c9)]
 by_cases c10:(s.instr c.1).1=10
 ·rw [if_pos c10,bif_t (decide_eq_true (by omega))]
  simp only [Ydh,Option.bind_some]
  rw [wrapI (n:=(s.instr c.1).1+6) (by omega) (by omega),c10,Ye5 s cs (c.1,10+6,(s.instr c.1).2.1,0,-1) hb]
  simp only [Option.bind_some]
  rw [ron_r h r (s.tell (c.1,10+6,(s.instr c.1).2.1,0,-1)) rfl rfl]
  exact ⟨cs,hr,rfl⟩
 rw [if_neg c10]
 by_cases c11:(s.instr c.1).1=11
 ·rw [if_pos c11,bif_t (decide_eq_true (by omega))]
  simp only [Ydh,Option.bind_some]
  rw [wrapI (n:=(s.instr c.1).1+6) (by omega) (by omega),c11,Ye5 s cs (c.1,11+6,(s.instr c.1).2.1,0,-1) hb]
  simp only [Option.bind_some]
  rw [ron_r h r (s.tell (c.1,11+6,(s.instr c.1).2.1,0,-1)) rfl rfl]
  exact ⟨cs,hr,rfl⟩
 rw [if_neg c11,bif_f (decide_eq_false (by have:=hi.1; omega)),Ycy h r (by have:=hi.1; omega)]
 refine ⟨cs,?_,rfl⟩
 split
 ·exact hr
 ·unfold MS.orElse; split <;> exact hr
theorem Y1a {α:Type} (l:List α) (p:α→Bool) {n:Nat} (h:n < l.length):(l.take (n+1)).any p=((l.take n).any p || p l[n]):=by
 rw [← List.take_append_getElem h,List.any_append]; simp
theorem Y15 {α:Type} (l:List α) (p:α→Bool) {n:Nat} (h:n < l.length):(l.take (n+1)).all p=((l.take n).all p && p l[n]):=by
 rw [← List.take_append_getElem h,List.all_append]; simp
theorem Ye0 (s:MS) (cs:List Ch) (hl:s.gs.length ≤ 1000) (hg:∀ x ∈ s.gs,0 ≤ x.2.2.1∧x.2.2.1 ≤ 2):Z6n (s.w cs)=some (s.settle.w cs):=by
 have key:=Y86 (f:=Zcy) s.gs.length (fun n=>((s.gs.take n).any (fun x=>x.2.2.1 == 0),(s.gs.take n).all (fun x=>x.2.2.1 == 2),s.gs,(s.gs.length:Int),(n:Int),s.w cs,0,0,0,(0,0)))
  (s.gs.any (fun x=>x.2.2.1 == 0),s.gs.all (fun x=>x.2.2.1 == 2),s.w cs,0,0,0,(0,0)) (by
   intro n hn
   have hz:getAt ((0:Int),((0:Int),((0:Int),false))) s.gs (toN (n:Int))=s.gs[n]:=getAtL _ hn
   have e1:=Y1a s.gs (fun x=>x.2.2.1 == 0) hn
   have e2:=Y15 s.gs (fun x=>x.2.2.1 == 2) hn
   generalize (s.gs.take (n+1)).any (fun x=>x.2.2.1 == 0)=A1 at e1 ⊢
   generalize (s.gs.take (n+1)).all (fun x=>x.2.2.1 == 2)=A2 at e2 ⊢
   subst e1 e2
   unfold Zcy
   simp only [hz]
   rw [bif_t (decide_eq_true (by omega)),bif_t (Y6r hn),wrapI (by omega) (by omega)]
   cases (s.gs.take n).any (fun x=>x.2.2.1 == 0) <;> cases (s.gs.take n).all (fun x=>x.2.2.1 == 2) <;> rfl) (by
   unfold Zcy
   simp only
   rw [bif_f (decide_eq_false (by omega)),List.take_length]) 0 (Nat.zero_le _)
 unfold Z6n
 simp only
 rw [show loop Zcy (false,true,s.gs,(s.gs.length:Int),0,s.w cs,0,0,0,(0,0))=_ from key]
 simp only [Option.bind_some]
 unfold MS.settle anyS
 by_cases c0:s.st=0
 ·rw [bif_f (by simpa using c0)]
  by_cases c1:(s.gs.any fun x=>x.2.2.1 == 0)=true
  ·rw [if_pos (.inr c1),bif_t c1]
  ·rw [if_neg (fun q=>q.elim (fun z=>z c0) c1),bif_f (Bool.eq_false_iff.2 c1)]
   by_cases c2:(s.gs.any fun x=>x.2.2.1 == 1)=true
   ·have:(s.gs.all fun x=>x.2.2.1 == 2)=false:=by
     obtain ⟨x,hx,e⟩:=List.any_eq_true.1 c2
     refine Bool.eq_false_iff.2 fun q=>?_
     have:=List.all_eq_true.1 q x hx
     have e:x.2.2.1=1:=by simpa using e
     have:x.2.2.1=2:=by simpa using this
     omega
    rw [if_pos c2,bif_f this]
   ·have:(s.gs.all fun x=>x.2.2.1 == 2)=true:=by
     refine List.all_eq_true.2 fun x hx=>?_
     have h0:x.2.2.1 ≠ 0:=fun e=>c1 (List.any_eq_true.2 ⟨x,hx,by simpa using e⟩)
     have h1:x.2.2.1 ≠ 1:=fun e=>c2 (List.any_eq_true.2 ⟨x,hx,by simpa using e⟩)
     have:=hg x hx
     have:x.2.2.1=2:=by omega
     simpa using this
    rw [if_neg c2,bif_t this]
 ·rw [if_pos (.inl c0),bif_t (by simpa using c0)]
theorem gi_st {cur:Int} (h:GI s cur):∀ x ∈ s.gs,0 ≤ x.2.2.1∧x.2.2.1 ≤ 2:=fun x hx=>⟨(h.gor x hx).2.2.2.2.1,(h.gor x hx).2.2.2.2.2.1⟩
theorem Yfd (s:MS):s.settle.cs=s.cs:=by
 unfold MS.settle
 split
 ·rfl
 ·split <;> rfl
theorem Yfc (s:MS):s.settle.L=s.L:=by
 unfold MS.settle
 split
 ·rfl
 ·split <;> rfl
theorem Ye1 {cs:List Ch} (h:Good s cs) {c:Cho} (hc:c ∈ s.chs):∃ cs',RelCs cs' (s.step c).cs∧Z5f (s.w cs,c)=some ((s.step c).w cs',(s.step c).L):=by
 have hb:s.clear.Bd 100:=⟨by show 0+100 ≤ 900000; omega,h.ev.1,by show s.ev+100 ≤ 3000000; have:=h.ev.2; omega⟩
 have h0:=h.gi.clear
 have hc0:c ∈ s.clear.chs:=hc
 have hgi:=act_gi (s:=s.clear) h.rel h0 hc0 hb h.sent
 obtain ⟨cs',e1,e2⟩:=ract_x (s:=s.clear) h.rel h0 hc0 hb h.sent
 refine ⟨cs',by unfold MS.step; rw [Yfd]; exact e1,?_⟩
 unfold Z5f
 simp only
 rw [show Z5h ((s.w cs,[]),c)=_ from e2]
 simp only [Option.bind_some]
 rw [Ye0 (s.clear.act c) cs' (act_gl hgi) (gi_st hgi)]
 simp only [Option.bind_some]
 unfold MS.step
 rw [Yfc]
theorem Yci {α:Type} (n:Nat) (a:α):List.replicate n a++a :: []=List.replicate (n+1) a:=by
 rw [List.replicate_succ']
theorem rnew_x (p:Pg) (hp:RightP p):Z5d p=some ((MS.new p).w (p.1.map newC),[(0,0,0,0,-1)]):=by
 have hsz:=hp.sizes
 unfold Yfl at hsz
 simp only [Bool.and_eq_true,decide_eq_true_eq,Y6p] at hsz
 have k4:=Y86 (f:=Zcc) p.1.length (fun n=>(p.1,(p.1.length:Int),(n:Int),p,0,0,0,(0,0),p,(0,0),[((0:Int),((0:Int),((0:Int),false)))],(p.1.take n).map newC))
  (p,0,0,0,(0,0),p,(0,0),[((0:Int),((0:Int),((0:Int),false)))],p.1.map newC) (by
   intro n hn
   have hm:=hp.caps p.1[n] (List.getElem_mem hn)
   unfold Zcc
   simp only
   rw [bif_t (decide_eq_true (by omega)),bif_t (Y6r hn),Yh1,getAtL _ hn,Yd3 _ hm.1 hm.2]
   simp only [Option.bind_some]
   rw [bif_t (Y5j.2 (by simp; omega)),wrapI (by omega) (by omega),show (p.1.take n).map newC++newC p.1[n] :: []=(p.1.take (n+1)).map newC by rw [← List.take_append_getElem hn,List.map_append]; rfl]
   rfl) (by
   unfold Zcc
   simp only
   rw [bif_f (decide_eq_false (by omega)),List.take_length]) 0 (Nat.zero_le _)
 have k9:=Y86 (f:=Zce) p.2.1.toNat (fun n=>((n:Int),p,0,0,0,(0,0),p,(0,0),[((0:Int),((0:Int),((0:Int),false)))],p.1.map newC,List.replicate n (false,[])))
  (p,0,0,0,(0,0),p,(0,0),[((0:Int),((0:Int),((0:Int),false)))],p.1.map newC,List.replicate p.2.1.toNat (false,[])) (by
   intro n hn
   unfold Zce
   simp only
   rw [bif_t (decide_eq_true (by omega)),bif_t (Y5j.2 (by simp; omega)),wrapI (by omega) (by omega),Yci]
   rfl) (by
   unfold Zce
   simp only
   rw [bif_f (decide_eq_false (by omega))]) 0 (Nat.zero_le _)
 have k13:=Y86 (f:=Zca) p.2.2.1.toNat (fun n=>((n:Int),p,0,0,0,(0,0),p,(0,0),[((0:Int),((0:Int),((0:Int),false)))],p.1.map newC,List.replicate p.2.1.toNat (false,[]),List.replicate n zeroO))
  (0,0,0,(0,0),p,(0,0),[((0:Int),((0:Int),((0:Int),false)))],p.1.map newC,List.replicate p.2.1.toNat (false,[]),List.replicate p.2.2.1.toNat zeroO) (by
   intro n hn
   unfold Zca
   simp only
   rw [bif_t (decide_eq_true (by omega)),bif_t (Y5j.2 (by simp; omega)),wrapI (by omega) (by omega),show List.replicate n zeroO++(0,0,[]) :: []=List.replicate (n+1) zeroO from Yci n zeroO]
   rfl) (by
   unfold Zca
   simp only
   rw [bif_f (decide_eq_false (by omega))]) 0 (Nat.zero_le _)
 unfold Z5d
 rw [show loop Zcc (p.1,(p.1.length:Int),0,p,0,0,0,(0,0),p,(0,0),(0,0,0,false) :: [],[])=_ from k4]
 simp only [Option.bind_some]
 rw [show loop Zce (0,p,0,0,0,(0,0),p,(0,0),[((0:Int),((0:Int),((0:Int),false)))],p.1.map newC,[])=_ from k9]
 simp only [Option.bind_some]
 rw [show loop Zca (0,p,0,0,0,(0,0),p,(0,0),[((0:Int),((0:Int),((0:Int),false)))],p.1.map newC,List.replicate p.2.1.toNat (false,[]),[])=_ from k13]
 simp only [Option.bind_some,Ydh]
 have hb:(MS.new0 p).Bd 1:=⟨by show 0+1 ≤ 900000; omega,by show (0:Int) ≤ 0; omega,by show (0:Int)+1 ≤ 3000000; omega⟩
 rw [show Z6t (((p,[((0:Int),((0:Int),((0:Int),false)))],p.1.map newC,List.replicate p.2.1.toNat (false,[]),List.replicate p.2.2.1.toNat zeroO,(0,0)),[]),0,0,0,0,-1)=some (((MS.new0 p).tell (0,0,0,0,-1)).r (p.1.map newC)) from Ye5 (MS.new0 p) (p.1.map newC) (0,0,0,0,-1) hb]
 simp only [Option.bind_some]
 rw [rto_x (g:=0) ((MS.new0 p).tell (0,0,0,0,-1)) (p.1.map newC) 0 ⟨by omega,by show (0:Int) < 1; omega⟩ (by show 1 ≤ 1000; omega) (by show (0:Int) ≤ 0; omega) (by show (0:Int) < (p.2.2.2.2.2.length:Int); omega) (by show (0:Int) ≤ ((List.length _:Nat):Int); omega)]
 simp only [Option.bind_some]
 have hgor:∀ x ∈ (((MS.new0 p).tell (0,0,0,0,-1)).to 0 0).gs,0 ≤ x.2.2.1∧x.2.2.1 ≤ 2:=by
  intro x hx
  have:x=gTo p (0,0,0,false) 0:=List.mem_singleton.1 hx
  rw [this]
  show 0 ≤ (if (0:Int)=_ then (2:Int) else 0)∧(if (0:Int)=_ then (2:Int) else 0) ≤ 2
  split <;> omega
 rw [Ye0 (((MS.new0 p).tell (0,0,0,0,-1)).to 0 0) (p.1.map newC) (by show 1 ≤ 1000; omega) hgor]
 rfl
theorem Y9u {p:Pg} (hp:RightP p):RelCs (p.1.map newC) (MS.new p).cs:=by
 unfold MS.new
 rw [Yfd]
 refine ⟨by show _=(p.1.map AC.new).length; simp,fun k hk=>?_⟩
 have hk:k < p.1.length:=by have:k < (p.1.map AC.new).length:=hk; simpa using this
 have hm:=hp.caps _ (Y92 hk 0)
 have e1:(p.1.map newC).getD k zeroC=newC (p.1.getD k 0):=by simp [List.getD,hk]
 have e2:(p.1.map AC.new).getD k zA=AC.new (p.1.getD k 0):=by simp [List.getD,hk]
 show RelC _ ((p.1.map AC.new).getD k zA)
 rw [e1,e2]
 exact RelC.new hm.1 hm.2
theorem Ydk {cs:List Ch} (hr:RelCs cs s.cs) (h:GI s (-1)) {g:Int} (r:Rdy s g) (c4:(s.instr g).1=4):Z6f (s.w cs,g,selAt s.p (s.instr g).2.1)=some (s.rdyL g):=by
 have hsb:=Yew h r c4
 have hl4:=Yey h.rp (s.instr g).2.1
 let acc:Nat→List Cho:=fun n=>((List.range n).filter fun (k:Nat)=>(s.ch (caseAt s.p (s.instr g).2.1 (k:Int)).2).ready (caseAt s.p (s.instr g).2.1 (k:Int)).1 g).map fun (k:Nat)=>(g,(k:Int))
 have hacc:∀ n,(acc n).length ≤ n:=fun n=>by
  show (List.map _ _).length ≤ n
  rw [List.length_map]
  have:=List.length_filter_le (fun (k:Nat)=>(s.ch (caseAt s.p (s.instr g).2.1 (k:Int)).2).ready (caseAt s.p (s.instr g).2.1 (k:Int)).1 g) (List.range n)
  rw [List.length_range] at this; exact this
 have key:=Y86 (f:=Zcs) (selAt s.p (s.instr g).2.1).1.length (fun n=>(g,(selAt s.p (s.instr g).2.1).1,((selAt s.p (s.instr g).2.1).1.length:Int),(n:Int),s.w cs,acc n)) (acc (selAt s.p (s.instr g).2.1).1.length) (by
  intro n hn
  have hcz:(selAt s.p (s.instr g).2.1).1.getD n (false,0)=caseAt s.p (s.instr g).2.1 (n:Int):=rfl
  have hk:=Y2k h.rp hsb (k:=(n:Int)) (by omega)
  rw [← h.cl,← hr.1] at hk
  have hkn:(caseAt s.p (s.instr g).2.1 (n:Int)).2.toNat < s.cs.length:=by have:=hr.1; omega
  have hrel:=hr.2 _ hkn
  have hok2:=h.ch _ (Y92 hkn zA)
  have hch:=hrel.ok.2 hok2
  have hrr:readyC (cs.getD (caseAt s.p (s.instr g).2.1 (n:Int)).2.toNat zeroC) (caseAt s.p (s.instr g).2.1 (n:Int)).1 g=(s.ch (caseAt s.p (s.instr g).2.1 (n:Int)).2).ready (caseAt s.p (s.instr g).2.1 (n:Int)).1 g:=hrel.ready hok2 (caseAt s.p (s.instr g).2.1 (n:Int)).1 g
  unfold Zcs
  simp only [caz_eq,chz_eq,hcz]
  rw [bif_t (decide_eq_true (by omega)),bif_t (Y6r hn),bif_t (inbL.2 hk),Ydj _ _ _ hch,hrr,wrapI (by omega) (by omega)]
  simp only [Option.bind_some]
  have hs1:acc (n+1)=if (s.ch (caseAt s.p (s.instr g).2.1 (n:Int)).2).ready (caseAt s.p (s.instr g).2.1 (n:Int)).1 g=true then acc n++[(g,(n:Int))] else acc n:=by
   exact Y53 (fun (k:Nat)=>(s.ch (caseAt s.p (s.instr g).2.1 (k:Int)).2).ready (caseAt s.p (s.instr g).2.1 (k:Int)).1 g) (fun (k:Nat)=>(g,(k:Int))) n
  by_cases q:(s.ch (caseAt s.p (s.instr g).2.1 (n:Int)).2).ready (caseAt s.p (s.instr g).2.1 (n:Int)).1 g=true
  ·rw [if_pos q] at hs1
   rw [bif_t q,bif_t (Y5j.2 (by have:=hacc n; show (acc n).length+1 ≤ _; omega)),← hs1]; rfl
  ·rw [if_neg q] at hs1
   rw [bif_f (Bool.eq_false_iff.2 q),hs1]; rfl) (by
  unfold Zcs
  simp only
  rw [bif_f (decide_eq_false (by omega))]) 0 (Nat.zero_le _)
 unfold Z6f
 simp only
 rw [show loop Zcs (g,(selAt s.p (s.instr g).2.1).1,((selAt s.p (s.instr g).2.1).1.length:Int),0,s.w cs,[])=_ from key]
 simp only [Option.bind_some]
 unfold MS.rdyL
 rw [if_neg (fun q=>q c4)]
theorem Ybu {cs:List Ch} (hr:RelCs cs s.cs) (h:GI s (-1)):Z5b (s.w cs)=some s.chs:=by
 have hgl:=h.gl
 let acc:Nat→List Cho:=fun n=>if s.st ≠ 0 then [] else (List.range n).flatMap fun (g:Nat)=>s.choG (g:Int)
 have hacc:∀ n,(acc n).length ≤ 4 * n:=by
  intro n
  show (if s.st ≠ 0 then [] else (List.range n).flatMap fun (g:Nat)=>s.choG (g:Int)).length ≤ _
  split
  ·exact Nat.zero_le _
  ·induction n with
   | zero=>exact Nat.le_refl _
   | succ n ih =>
    rw [List.range_succ,List.flatMap_append,List.length_append]
    have:=Y2v h (n:Int)
    simp only [List.flatMap_cons,List.flatMap_nil,List.append_nil]
    omega
 have key:=Y86 (f:=Zc8) s.gs.length (fun n=>(s.gs,(s.gs.length:Int),(n:Int),s.w cs,acc n)) (acc s.gs.length) (by
  intro n hn
  have ha:=hacc n
  unfold Zc8
  simp only [gAt_eq]
  rw [bif_t (decide_eq_true (by omega)),bif_t (Y6r hn),wrapI (by omega) (by omega)]
  by_cases c0:s.st=0
  ·rw [bif_f (show (s.st != 0)=false by rw [c0]; rfl)]
   have hs1:acc (n+1)=acc n++s.choG (n:Int):=by
    show (if s.st ≠ 0 then [] else (List.range (n+1)).flatMap fun (g:Nat)=>s.choG (g:Int))=(if s.st ≠ 0 then [] else (List.range n).flatMap fun (g:Nat)=>s.choG (g:Int))++_
    rw [if_neg (fun q=>q c0),if_neg (fun q=>q c0),List.range_succ,List.flatMap_append]
    simp
   by_cases c1:(s.g (n:Int)).2.2.1=0
   ·rw [bif_f (show ((gAt s.gs (n:Int)).2.2.1 != 0)=false by rw [show (gAt s.gs (n:Int)).2.2.1=0 from c1]; rfl)]
    have r:Rdy s (n:Int):=⟨⟨by omega,by omega⟩,c1⟩
    rw [Ycx (g:=(n:Int)) s cs r.hg (h.gok r.hg) (by omega)]
    simp only [Option.bind_some]
    have hl:=Ybx h (n:Int)
    by_cases c4:(s.instr (n:Int)).1=4
    ·have hsb:=Yew h r c4
     rw [bif_t (by simpa using c4),bif_t (inbL.2 hsb),sel_eq,Ydk hr h r c4]
     simp only [Option.bind_some]
     by_cases c2:s.rdyL (n:Int)=[]
     ·have hc:s.choG (n:Int)=[((n:Int),-1)]:=by unfold MS.choG; rw [if_neg (fun q=>q c1),if_pos c2]
      rw [c2,bif_t (by rfl),bif_t (Y5j.2 (by show 0+1 ≤ _; omega)),bif_t (Y5j.2 (by show (acc n).length+1 ≤ _; omega)),hs1,hc]; rfl
     ·have hc:s.choG (n:Int)=s.rdyL (n:Int):=by unfold MS.choG; rw [if_neg (fun q=>q c1),if_neg c2]
      have:¬ (s.rdyL (n:Int)).length=0:=fun q=>c2 (List.eq_nil_of_length_eq_zero q)
      rw [bif_f (by simp; omega),bif_t (Y5j.2 (by omega)),hs1,hc]; rfl
    ·have hc:s.choG (n:Int)=[((n:Int),-1)]:=by
      unfold MS.choG
      rw [if_neg (fun q=>q c1),if_pos]
      unfold MS.rdyL
      rw [if_pos c4]
     rw [bif_f (by simpa using c4),bif_t (Y5j.2 (by show (acc n).length+1 ≤ _; omega)),hs1,hc]; rfl
   ·have hc:s.choG (n:Int)=[]:=by unfold MS.choG; rw [if_pos c1]
    rw [bif_t (show ((gAt s.gs (n:Int)).2.2.1 != 0)=true from bne_iff_ne.2 c1),hs1,hc,List.append_nil]; rfl
  ·rw [bif_t (show (s.st != 0)=true from bne_iff_ne.2 c0)]
   have e:∀ m,acc m=[]:=fun m=>if_pos c0
   rw [e,e]; rfl) (by
  unfold Zc8
  simp only
  rw [bif_f (decide_eq_false (by omega))]) 0 (Nat.zero_le _)
 unfold Z5b
 simp only
 have h0:acc 0=[]:=by show (if s.st ≠ 0 then [] else [])=[]; split <;> rfl
 rw [show ((0:Nat):Int)=0 from rfl,h0] at key
 rw [key]
 rfl
end
end Go.Proofs.YthdlpkdojipfhaaGreat.VX.VxM_M
set_option linter.unusedVariables false
set_option linter.unusedSimpArgs false
namespace Go.Proofs.YthdlpkdojipfhaaGreat.VX.VxM_M
open Go.Proofs
theorem Yct {p:Pg} (hp:RightP p):small p:=by
 have hsz:=hp.sizes
 unfold Yfl at hsz
 simp only [Bool.and_eq_true,decide_eq_true_eq,Y6p] at hsz
 exact ⟨by omega,by omega,by omega,fun s hs=>by have:=(hp.sels s hs).1; omega,fun b hb=>by have:=(hp.blks b hb).1; omega⟩
end Go.Proofs.YthdlpkdojipfhaaGreat.VX.VxM_M
set_option linter.unusedVariables false
set_option linter.unusedSimpArgs false
namespace Go.Proofs.YthdlpkdojipfhaaGreat.VX.VxM_M
open Go.Proofs
def fewP (p:Pg):Pg:=(p.1.take 6,p.2.1,p.2.2.1,p.2.2.2.1,(p.2.2.2.2.1.take 6).map (fun s=>(s.1.take 6,s.2)),(p.2.2.2.2.2.take 8).map (fun b=>b.take 30))
theorem cutm {α:Type} (l:List α) (k:Nat):cut l (toN 0) ((toN (Min.min ((l.length:Nat):Int) (k:Int))) - toN 0)=l.take k:=by
 unfold cut toN
 simp only [Int.toNat_zero,List.drop_zero,Nat.sub_zero]
 by_cases h:l.length ≤ k
 ·rw [show min ((l.length:Nat):Int) (k:Int)=l.length by omega,List.take_of_length_le h]; simp
 ·rw [show min ((l.length:Nat):Int) (k:Int)=k by omega]; simp
theorem few_x (p:Pg):Z3r p=some (fewP p):=by
 have c1:=cutm p.1 6
 have c2:=cutm p.2.2.2.2.1 6
 have c3:=cutm p.2.2.2.2.2 8
 have l1:(p.2.2.2.2.1.take 6).length ≤ 6:=by simp; omega
 have l2:(p.2.2.2.2.2.take 8).length ≤ 8:=by simp; omega
 generalize hS:p.2.2.2.2.1.take 6=S at *
 generalize hB:p.2.2.2.2.2.take 8=B at *
 have k5:=Y86 (f:=Zbg) S.length (fun n=>(S,(S.length:Int),(n:Int),(p.1.take 6,p.2),0,0,0,(S.take n).map (fun s=>(s.1.take 6,s.2)))) ((p.1.take 6,p.2),0,0,0,S.map (fun s=>(s.1.take 6,s.2))) (fun n hn=>by
  have hz:getAt (([]:List Cs),false) S (toN (n:Int))=S[n]:=getAtL _ hn
  have hc:=cutm S[n].1 6
  unfold Zbg
  simp only [hz]
  rw [bif_t (decide_eq_true (by omega)),bif_t (Y6r hn),bif_t (sub3L.2 ⟨by omega,by omega,by omega⟩),bif_t (Y5j.2 (by simp; omega)),wrapI (by omega) (by omega),show cut S[n].1 (toN 0) ((toN (Min.min ((S[n].1.length:Nat):Int) 6)) - toN 0)=S[n].1.take 6 from hc,show (S.take n).map (fun s=>(s.1.take 6,s.2))++(S[n].1.take 6,S[n].2) :: []=(S.take (n+1)).map (fun s=>(s.1.take 6,s.2)) by rw [← List.take_append_getElem hn,List.map_append]; rfl]
  rfl) (by
  unfold Zbg
  simp only
  rw [bif_f (decide_eq_false (by omega)),List.take_length]) 0 (Nat.zero_le _)
 have k12:=Y86 (f:=Zbf) B.length (fun n=>(B,(B.length:Int),(n:Int),(p.1.take 6,p.2),0,0,0,S.map (fun s=>(s.1.take 6,s.2)),(B.take n).map (fun b=>b.take 30))) ((p.1.take 6,p.2),0,0,0,S.map (fun s=>(s.1.take 6,s.2)),B.map (fun b=>b.take 30)) (fun n hn=>by
  have hz:getAt ([]:List In) B (toN (n:Int))=B[n]:=getAtL _ hn
  have hc:=cutm B[n] 30
  unfold Zbf
  simp only [hz]
  rw [bif_t (decide_eq_true (by omega)),bif_t (Y6r hn),bif_t (sub3L.2 ⟨by omega,by omega,by omega⟩),bif_t (Y5j.2 (by simp; omega)),wrapI (by omega) (by omega),show cut B[n] (toN 0) ((toN (Min.min ((B[n].length:Nat):Int) 30)) - toN 0)=B[n].take 30 from hc,show (B.take n).map (fun b=>b.take 30)++B[n].take 30 :: []=(B.take (n+1)).map (fun b=>b.take 30) by rw [← List.take_append_getElem hn,List.map_append]; rfl]
  rfl) (by
  unfold Zbf
  simp only
  rw [bif_f (decide_eq_false (by omega)),List.take_length]) 0 (Nat.zero_le _)
 unfold Z3r
 rw [bif_t (sub3L.2 ⟨by omega,by omega,by omega⟩),bif_t (sub3L.2 ⟨by omega,by omega,by omega⟩)]
 rw [show cut p.2.2.2.2.1 (toN 0) (toN (Min.min ((p.2.2.2.2.1.length:Nat):Int) 6) - toN 0)=S from c2,show cut p.1 (toN 0) (toN (Min.min ((p.1.length:Nat):Int) 6) - toN 0)=p.1.take 6 from c1]
 rw [show loop Zbg (S,(S.length:Int),0,(p.1.take 6,p.2),0,0,0,[])=_ from k5]
 simp only [Option.bind_some]
 rw [bif_t (sub3L.2 ⟨by omega,by omega,by omega⟩),show cut p.2.2.2.2.2 (toN 0) (toN (Min.min ((p.2.2.2.2.2.length:Nat):Int) 8) - toN 0)=B from c3]
 rw [show loop Zbf (B,(B.length:Int),0,(p.1.take 6,p.2),0,0,0,S.map (fun s=>(s.1.take 6,s.2)),[])=_ from k12]
 simp only [Option.bind_some]
 unfold fewP
 rw [hS,hB]
theorem Y4x (p:Pg):small (fewP p):=by
 unfold fewP
 refine ⟨by simp; omega,by simp; omega,by simp; omega,fun s hs=>?_,fun b hb=>?_⟩
 ·obtain ⟨t,_,e⟩:=List.mem_map.1 hs
  rw [← e]; simp; omega
 ·obtain ⟨t,_,e⟩:=List.mem_map.1 hb
  rw [← e]; simp; omega
def pp:Pg:=([0],0,0,0,[],[[(9,1,0),(2,0,0)],[(1,0,0)]])
theorem Yb8:RightP pp:=(Ycs pp).1 (by decide)
def p1:MS:=(MS.new pp).step (0,-1)
def p2:MS:=p1.step (0,-1)
def p3:MS:=p2.step (1,-1)
theorem GoodN.both {n:Nat} {s:MS} {cs cs':List Ch} (h:GoodN n s cs) (hr:RelCs cs' s.cs):GoodN n s cs':=⟨hr,h.gi,h.ev,h.sent⟩
theorem Ygc {n:Nat} {s:MS} {cs:List Ch} (h:GoodN n s cs) {c:Cho} (hc:c ∈ s.chs):(s.step c).L.length ≤ 70:=by
 obtain ⟨e,e1,e2,e3⟩:=(Ygd h.gi hc).L
 rw [e1]
 show ([]++e).length ≤ 70
 simpa using e2
theorem Ydq (p:Pg) (hs:small p):Z47 p=some (decide (rightP p)):=by
 unfold Z47
 rw [Yej p hs]
 simp only [Option.bind_some]
 unfold rightP
 by_cases h:(wrongP p).2.2=0
 ·rw [decide_eq_true h,beq_iff_eq.2 h]
 ·rw [decide_eq_false h,beq_eq_false_iff_ne.2 h]
end Go.Proofs.YthdlpkdojipfhaaGreat.VX.VxM_M
set_option linter.unusedVariables false
set_option linter.unusedSimpArgs false
namespace Go.Proofs.YthdlpkdojipfhaaGreat.VX.VxM_M
open Go.Proofs
def cntK (k:Int) (e:List Ev):Nat:=e.countP (fun x=>x.1 == k)
theorem Y3c (k:Int) (a b:List Ev):cntK k (a++b)=cntK k a+cntK k b:=List.countP_append ..
theorem Y3e {k:Int} {x:Ev} (h:x.1 ≠ k):cntK k [x]=0:=by unfold cntK; simp [h]
theorem Y3d {k:Int} {x:Ev} (h:x.1=k):cntK k [x]=1:=by unfold cntK; simp [h]
def Oth (k:Int) (s s':MS) (e:List Ev):Prop:=(s'.g k=s.g k∧cntK k e=0) ∨ ((s.g k).2.2.1=1∧cntK k e=1∧(s'.g k).2.2.1 ≠ 1)
def tg (s:MS) (y:W):Prop:=0 ≤ y.2.2∧y.2.2 < s.ev
structure TI (s:MS):Prop where
 c:∀ (k:Nat) b,∀ y ∈ (s.ch k).mine b,tg s y
 l:∀ k:Nat,∀ y ∈ (s.lk k).2,tg s y
 o:∀ k:Nat,∀ y ∈ (s.oc k).2.2,tg s y
structure Mv (g:Int) (s s':MS):Prop where
 len:s'.gs.length=s.gs.length
 ev:s.ev ≤ s'.ev
 mv:∃ e,s'.L=s.L++e∧(∀ k,k ≠ g→0 ≤ k→k < s.gs.length→Oth k s s' e)∧∀ x ∈ e,(0 ≤ x.1∧x.1 < s.gs.length)∧-1 ≤ x.2.2.2.2∧x.2.2.2.2 < s'.ev
 ti:TI s'
section
variable {s s' s'':MS} {g:Int}
theorem Mv.trans (h:Mv g s s') (k:Mv g s' s''):Mv g s s'':=by
 obtain ⟨e,e1,e2,e3⟩:=h.mv
 obtain ⟨f,f1,f2,f3⟩:=k.mv
 have hl:=h.len
 have he:=h.ev
 have hf:=k.ev
 refine ⟨k.len.trans h.len,by omega,⟨e++f,by rw [f1,e1,List.append_assoc],fun j h0 h1 h2=>?_,fun x hx=>?_⟩,k.ti⟩
 ·have a:=e2 j h0 h1 h2
  have b:=f2 j h0 h1 (by omega)
  unfold Oth at a b ⊢
  rw [Y3c]
  rcases a with ⟨a1,a2⟩ | ⟨a1,a2,a3⟩ <;> rcases b with ⟨b1,b2⟩ | ⟨b1,b2,b3⟩
  ·exact .inl ⟨b1.trans a1,by omega⟩
  ·exact .inr ⟨by rw [← a1]; exact b1,by omega,b3⟩
  ·exact .inr ⟨a1,by omega,by rw [b1]; exact a3⟩
  ·exact absurd b1 a3
 ·rcases List.mem_append.1 hx with q | q
  ·have:=e3 x q; exact ⟨this.1,this.2.1,by omega⟩
  ·have:=f3 x q; exact ⟨⟨this.1.1,by omega⟩,this.2⟩
theorem TI.ev (h:TI s) (hc:s'.cs=s.cs) (hl:s'.ls=s.ls) (ho:s'.os=s.os) (he:s.ev ≤ s'.ev):TI s':=by
 have w:∀ y,tg s y→tg s' y:=fun y q=>⟨q.1,by have:=q.2; omega⟩
 refine ⟨fun k b y hy=>w y (h.c k b y ?_),fun k y hy=>w y (h.l k y ?_),fun k y hy=>w y (h.o k y ?_)⟩
 ·have:s'.ch k=s.ch k:=by unfold MS.ch; rw [hc]
  rw [this] at hy; exact hy
 ·have:s'.lk k=s.lk k:=by unfold MS.lk; rw [hl]
  rw [this] at hy; exact hy
 ·have:s'.oc k=s.oc k:=by unfold MS.oc; rw [ho]
  rw [this] at hy; exact hy
theorem Mv.quiet (t:TI s') (hl:s'.gs.length=s.gs.length) (hg:∀ k,k ≠ g→0 ≤ k→s'.g k=s.g k) (hL:s'.L=s.L) (he:s'.ev=s.ev):Mv g s s' :=
 ⟨hl,by omega,⟨[],by rw [hL,List.append_nil],fun k h0 h1 _=>.inl ⟨hg k h0 h1,rfl⟩,fun x hx=>by cases hx⟩,t⟩
theorem Mv.tell (t:TI s) {e:Ev} (h:e.1=g) (hg:0 ≤ g∧g < s.gs.length) (h1:-1 ≤ e.2.2.2.2) (h2:e.2.2.2.2 ≤ s.ev):Mv g s (s.tell e) :=
 ⟨rfl,by show s.ev ≤ s.ev+1; omega,⟨[e],rfl,fun k h0 _ _=>.inl ⟨rfl,Y3e (by rw [h]; exact fun q=>h0 q.symm)⟩,fun x hx=>by rw [List.mem_singleton.1 hx,h]; exact ⟨hg,h1,by show e.2.2.2.2 < s.ev+1; omega⟩⟩,
  t.ev rfl rfl rfl (by show s.ev ≤ s.ev+1; omega)⟩
theorem Mv.gset (t:TI s) (hg:0 ≤ g) (x:Gor):Mv g s (s.gset g x) :=
 Mv.quiet (t.ev rfl rfl rfl (Int.le_refl _)) List.length_set (fun k h0 h1=>gAt_ne hg h1 (Ne.symm h0) x) rfl rfl
theorem Mv.to (t:TI s) (hg:0 ≤ g) (pc:Int):Mv g s (s.to g pc):=Mv.gset t hg _
theorem Mv.on (t:TI s) (hg:0 ≤ g):Mv g s (s.on g):=Mv.gset t hg _
theorem Mv.wait (t:TI s) (hg:0 ≤ g):Mv g s (s.wait g):=Mv.gset t hg _
theorem Mv.st (t:TI s) (n:Int):Mv g s { s with st:=n }:=Mv.quiet (t.ev rfl rfl rfl (Int.le_refl _)) rfl (fun _ _ _=>rfl) rfl rfl
theorem Mv.refl (t:TI s):Mv g s s:=Mv.quiet t rfl (fun _ _ _=>rfl) rfl rfl
theorem Y2u (k:Int) (a:AC) (j:Nat):(s.csset k a).ch j=if j=toN k∧toN k < s.cs.length then a else s.ch j:=by
 show (s.cs.set (toN k) a).getD j zA=_
 by_cases hk:toN k < s.cs.length
 ·have:=Y6d hk zA a j
  rw [show (s.cs.set (toN k) a).getD j zA=_ from this]
  by_cases e:j=toN k
  ·rw [if_pos e,if_pos ⟨e,hk⟩]
  ·rw [if_neg e,if_neg (fun q=>e q.1)]; rfl
 ·rw [List.set_eq_of_length_le (by omega),if_neg (fun q=>hk q.2)]; rfl
theorem TI.csset (t:TI s) (k:Int) {a:AC} (ha:∀ b,∀ y ∈ a.mine b,tg s y):TI (s.csset k a):=by
 refine ⟨fun j b y hy=>?_,t.l,t.o⟩
 rw [Y2u] at hy
 split at hy
 ·exact ha b y hy
 ·exact t.c j b y hy
theorem TI.offer (t:TI s) {x:W} (hx:tg s x) (k:Int) (hk:0 ≤ k) (b:Bool):TI (s.offer x k b).2:=by
 have ho:=Ya8 (s.ch k) b x
 have hkk:((k.toNat:Nat):Int)=k:=by omega
 have hc:∀ c,∀ y ∈ (s.ch k).mine c,tg s y:=fun c y hy=>t.c k.toNat c y (by rw [hkk]; exact hy)
 refine t.csset k (fun c y hy=>?_)
 by_cases e:c=b
 ·subst e
  rcases ho.mine y hy with q | ⟨q,_⟩
  ·exact hc _ y q
  ·rw [q]; exact hx
 ·have e:c=!b:=by cases c <;> cases b <;> simp_all
  subst e
  rw [← Ygs] at hy
  have:=ho.theirs y hy
  rw [Ygs] at this
  exact hc _ y this
theorem Mv.offer (t:TI s) {x:W} (hx:tg s x) (k:Int) (hk:0 ≤ k) (b:Bool):Mv g s (s.offer x k b).2:=Mv.quiet (t.offer hx k hk b) rfl (fun _ _ _=>rfl) rfl rfl
theorem TI.leave (t:TI s) (g:Int):TI (s.leave g):=by
 refine ⟨fun j b y hy=>?_,t.l,t.o⟩
 by_cases hj:j < s.cs.length
 ·have:(s.leave g).ch j=(s.ch j).leave g:=by
   show (s.cs.map fun a=>a.leave g).getD j zA=(s.cs.getD j zA).leave g
   simp [List.getD,hj]
  rw [this,Y7o] at hy
  exact t.c j b y (List.mem_filter.1 hy).1
 ·have:(s.leave g).ch j=zA:=by
   show (s.cs.map fun a=>a.leave g).getD j zA=zA
   simp [List.getD,hj]
  rw [this] at hy
  cases b <;> cases hy
theorem Mv.done (t:TI s) {x:W} (hx:0 ≤ x.1∧x.1 < s.gs.length) (hw:x.1=g ∨ (s.g x.1).2.2.1=1) (ht:tg s x) (k no:Int) (b:Bool):Mv g s (s.done x k no b):=by
 have hE:(s.doneE x k no b).1=x.1∧(s.doneE x k no b).2.2.2.2=x.2.2:=by
  unfold MS.doneE
  split
  ·exact ⟨rfl,rfl⟩
  ·split <;> exact ⟨rfl,rfl⟩
 rw [Y41 s x hx]
 refine ⟨List.length_set,by show s.ev ≤ s.ev+1; omega,⟨[s.doneE x k no b],rfl,fun j h0 h1 h2=>?_,fun y hy=>?_⟩,(t.leave x.1).ev rfl rfl rfl (by show s.ev ≤ s.ev+1; omega)⟩
 ·by_cases e:j=x.1
  ·subst e
   refine .inr ⟨hw.resolve_left h0,Y3d hE.1,?_⟩
   show (gAt (s.gs.set (toN x.1) _) x.1).2.2.1 ≠ 1
   rw [Y69 hx]
   show (if _ then (2:Int) else 0) ≠ 1
   split <;> omega
  ·exact .inl ⟨gAt_ne hx.1 h1 (Ne.symm e) _,Y3e (by rw [hE.1]; exact fun q=>e q.symm)⟩
 ·rw [List.mem_singleton.1 hy,hE.1,hE.2]
  exact ⟨hx,by have:=ht.1; omega,by have:=ht.2; show x.2.2 < s.ev+1; omega⟩
theorem Mv.pass (h:GI s (-1)) (t:TI s) {x:W} (hg:0 ≤ x.1∧x.1 < s.gs.length) (hx:x.1=g) (ht:tg s x) {k:Int} (hk:0 ≤ k∧k < s.cs.length) (b:Bool):Mv g s (s.pass x k b):=by
 have hg0:0 ≤ g:=by rw [← hx]; exact hg.1
 have m1:Mv g s (s.offer x k b).2:=Mv.offer t ht k hk.1 b
 have hout:=Ya8 (s.ch k) b x
 have hkd:(s.offer x k b).1=((s.ch k).off b x).2:=rfl
 unfold MS.pass
 by_cases c0:(s.offer x k b).1.1=0
 ·rw [if_pos c0,hx]; exact m1.trans (Mv.wait m1.ti hg0)
 rw [if_neg c0]
 by_cases c3:(s.offer x k b).1.1=3
 ·rw [if_pos c3]; exact m1.trans (Mv.st m1.ti 3)
 rw [if_neg c3]
 by_cases cw:(s.offer x k b).1.2.2.1.1=-1
 ·rw [if_pos cw]
  exact m1.trans (Mv.done m1.ti hg (.inl hx) ht _ _ _)
 ·rw [if_neg cw]
  have hv:(s.offer x k b).1.2.2.1 ∈ (s.ch k).theirs b:=by
   rcases hout.kind with q | ⟨q1,q2⟩ | q | q
   ·exact absurd q.1 c0
   ·rcases q2 with q2 | q2
    ·exact absurd (by rw [hkd,q2]; rfl) cw
    ·exact q2.1
   ·exact absurd (by rw [hkd,q.2.2.1]; rfl) cw
   ·exact absurd q.1 c3
  rw [Ygs] at hv
  have hf:=(h.cw' hk _ _ hv).1
  have hst:(s.g (s.offer x k b).1.2.2.1.1).2.2.1=1:=hf.2.2.resolve_right (fun q=>by have:=hf.1; omega)
  have htv:tg s (s.offer x k b).1.2.2.1:=by
   refine t.c k.toNat (!b) _ ?_
   rw [show ((k.toNat:Nat):Int)=k by omega]; exact hv
  have m2:Mv g s ((s.offer x k b).2.done (s.offer x k b).1.2.2.1 k (s.offer x k b).1.2.2.2 false):=m1.trans (Mv.done m1.ti ⟨hf.1,hf.2.1⟩ (.inr hst) htv _ _ _)
  have e2:=m2.ev
  have l2:=m2.len
  exact m2.trans (Mv.done m2.ti ⟨hg.1,by rw [l2]; exact hg.2⟩ (.inl hx) ⟨ht.1,by have:=ht.2; omega⟩ _ _ _)
end
end Go.Proofs.YthdlpkdojipfhaaGreat.VX.VxM_M
set_option linter.unusedVariables false
set_option linter.unusedSimpArgs false
namespace Go.Proofs.YthdlpkdojipfhaaGreat.VX.VxM_M
open Go.Proofs
section
variable {s s' s'':MS} {g:Int}
theorem Mv.skip (t:TI s) {x:W} (hx:0 ≤ x.1∧x.1 < s.gs.length) (hw:x.1=g ∨ (s.g x.1).2.2.1=1) (ht:0 ≤ x.2.2∧x.2.2 ≤ s.ev):Mv g s (s.skip x.1 x.2.2):=by
 refine ⟨List.length_set,by show s.ev ≤ s.ev+1; omega,⟨[(x.1,15,(s.instr x.1).2.1,0,x.2.2)],rfl,fun j h0 h1 h2=>?_,fun y hy=>?_⟩,t.ev rfl rfl rfl (by show s.ev ≤ s.ev+1; omega)⟩
 ·by_cases e:j=x.1
  ·subst e
   refine .inr ⟨hw.resolve_left h0,Y3d rfl,?_⟩
   show (gAt (s.gs.set (toN x.1) _) x.1).2.2.1 ≠ 1
   rw [Y69 hx]
   show (if _ then (2:Int) else 0) ≠ 1
   split <;> omega
  ·exact .inl ⟨gAt_ne hx.1 h1 (Ne.symm e) _,Y3e (fun q=>e q.symm)⟩
 ·rw [List.mem_singleton.1 hy]
  exact ⟨hx,by show -1 ≤ x.2.2; omega,by show x.2.2 < s.ev+1; omega⟩
theorem Mv.upto {nx:Nat→MS→MS} {n:Nat} (P:Nat→MS→Prop) (h:∀ k s,k < n→P k s→TI s→Mv g s (nx k s)∧P (k+1) (nx k s)):∀ m k s,k+m=n→P k s→TI s→Mv g s (Go.Proofs.YthdlpkdojipfhaaGreat.VX.VxM_M.upto nx k m s)
 | 0,k,s,_,_,t=>Mv.refl t
 | m+1,k,s,e,p,t=>by
  obtain ⟨a,b⟩:=h k s (by omega) p t
  exact a.trans (Mv.upto P h m (k+1) (nx k s) (by omega) b a.ti)
theorem Mv.skips (t:TI s) (l:List W) (hw:∀ x ∈ l,(0 ≤ x.1∧x.1 < s.gs.length)∧(s.g x.1).2.2.1=1∧tg s x) (hd:(l.map fun x=>x.1).Nodup):Mv g s (s.skips l):=by
 refine Mv.upto (n:=l.length) (fun k q=>q.gs.length=s.gs.length∧s.ev ≤ q.ev∧∀ j,k ≤ j→j < l.length→(q.g (l.getD j zeroW).1).2.2.1=1) (fun k q hk hp tq=>?_) l.length 0 s (by omega) ⟨rfl,Int.le_refl _,fun j _ hj=>(hw _ (by rw [Y6c hj]; exact List.getElem_mem hj)).2.1⟩ t
 obtain ⟨p1,p2,p3⟩:=hp
 have hk1:=hw (l.getD k zeroW) (by rw [Y6c hk]; exact List.getElem_mem hk)
 have hm:Mv g q (q.skip (l.getD k zeroW).1 (l.getD k zeroW).2.2):=Mv.skip tq (by rw [p1]; exact hk1.1) (.inr (p3 k (Nat.le_refl _) hk)) ⟨hk1.2.2.1,by have:=hk1.2.2.2; omega⟩
 refine ⟨hm,by rw [hm.len,p1],by have:=hm.ev; omega,fun j h1 h2=>?_⟩
 have hj1:=hw (l.getD j zeroW) (by rw [Y6c h2]; exact List.getElem_mem h2)
 have hne:(l.getD j zeroW).1 ≠ (l.getD k zeroW).1:=by
  intro e
  rw [Y6c h2,Y6c hk] at e
  have h3:(l.map fun x=>x.1)[j]'(by simpa using h2)=(l.map fun x=>x.1)[k]'(by simpa using hk):=by simpa using e
  have:=(List.getElem_inj hd).1 h3
  omega
 rw [skip_g (g:=(l.getD k zeroW).1) q (l.getD k zeroW).2.2 hk1.1.1 hj1.1.1 hne]
 exact p3 j (by omega) h2
theorem Mv.shutL (t:TI s) (k:Int) (l:List W) (hw:∀ x ∈ l,(0 ≤ x.1∧x.1 < s.gs.length)∧(s.g x.1).2.2.1=1∧tg s x):Mv g s (s.shutL k l):=by
 have key:∀ m n (q:MS × List Int),n+m=l.length→TI q.1→q.1.gs.length=s.gs.length→s.ev ≤ q.1.ev→(∀ j,n ≤ j→j < l.length→(l.getD j zeroW).1 ∉ q.2→(q.1.g (l.getD j zeroW).1).2.2.1=1)→Mv g q.1 (Go.Proofs.YthdlpkdojipfhaaGreat.VX.VxM_M.upto (MS.shutS k l) n m q).1:=by
  intro m
  induction m with
  | zero=>exact fun n q _ tq _ _ _=>Mv.refl tq
  | succ m ih =>
   intro n q hn tq h1 h2 h3
   have hnl:n < l.length:=by omega
   have hk1:=hw (l.getD n zeroW) (by rw [Y6c hnl]; exact List.getElem_mem hnl)
   show Mv g q.1 (Go.Proofs.YthdlpkdojipfhaaGreat.VX.VxM_M.upto (MS.shutS k l) (n+1) m (MS.shutS k l n q)).1
   by_cases c:(l.getD n zeroW).1 ∈ q.2
   ·have e:MS.shutS k l n q=q:=by unfold MS.shutS; rw [if_pos c]
    rw [e]
    exact ih (n+1) q (by omega) tq h1 h2 (fun j a b d=>h3 j (by omega) b d)
   ·have e:MS.shutS k l n q=(q.1.done (l.getD n zeroW) k 0 true,(l.getD n zeroW).1 :: q.2):=by unfold MS.shutS; rw [if_neg c]
    rw [e]
    have hx:0 ≤ (l.getD n zeroW).1∧(l.getD n zeroW).1 < q.1.gs.length:=by rw [h1]; exact hk1.1
    have hm:Mv g q.1 (q.1.done (l.getD n zeroW) k 0 true):=Mv.done tq hx (.inr (h3 n (Nat.le_refl _) hnl c)) ⟨hk1.2.2.1,by have:=hk1.2.2.2; omega⟩ _ _ _
    refine hm.trans (ih (n+1) (q.1.done (l.getD n zeroW) k 0 true,(l.getD n zeroW).1 :: q.2) (by omega) hm.ti (by show (q.1.done _ _ _ _).gs.length=_; rw [hm.len,h1]) (by have:=hm.ev; show s.ev ≤ (q.1.done _ _ _ _).ev; omega) (fun j a b d=>?_))
    have d:(l.getD j zeroW).1 ∉ (l.getD n zeroW).1 :: q.2:=d
    rw [List.mem_cons,not_or] at d
    have hj1:=hw (l.getD j zeroW) (by rw [Y6c b]; exact List.getElem_mem b)
    show ((q.1.done (l.getD n zeroW) k 0 true).g _).2.2.1=1
    rw [done_g q.1 _ hx k 0 true hj1.1.1 d.1]
    exact h3 j (by omega) b d.2
 exact key l.length 0 (s,[]) (by omega) t rfl (Int.le_refl _) (fun j _ hj _=>(hw _ (by rw [Y6c hj]; exact List.getElem_mem hj)).2.1)
theorem TI.lset (t:TI s) (k:Int) {l:Lk} (hl:∀ y ∈ l.2,tg s y):TI (s.lset k l):=by
 refine ⟨t.c,fun j y hy=>?_,t.o⟩
 by_cases hk:toN k < s.ls.length
 ·have e:(s.lset k l).lk j=if j=toN k then l else s.lk j:=Y6d hk _ l j
  rw [e] at hy
  split at hy
  ·exact hl y hy
  ·exact t.l j y hy
 ·have e:(s.lset k l).lk j=s.lk j:=by
   show (s.ls.set (toN k) l).getD j _=_
   rw [List.set_eq_of_length_le (by omega)]; rfl
  rw [e] at hy; exact t.l j y hy
theorem TI.oset (t:TI s) (k:Int) {o:On} (ho:∀ y ∈ o.2.2,tg s y):TI (s.oset k o):=by
 refine ⟨t.c,t.l,fun j y hy=>?_⟩
 by_cases hk:toN k < s.os.length
 ·have e:(s.oset k o).oc j=if j=toN k then o else s.oc j:=Y6d hk _ o j
  rw [e] at hy
  split at hy
  ·exact ho y hy
  ·exact t.o j y hy
 ·have e:(s.oset k o).oc j=s.oc j:=by
   show (s.os.set (toN k) o).getD j _=_
   rw [List.set_eq_of_length_le (by omega)]; rfl
  rw [e] at hy; exact t.o j y hy
theorem Mv.lset (t:TI s) (k:Int) {l:Lk} (hl:∀ y ∈ l.2,tg s y):Mv g s (s.lset k l):=Mv.quiet (t.lset k hl) rfl (fun _ _ _=>rfl) rfl rfl
theorem Mv.oset (t:TI s) (k:Int) {o:On} (ho:∀ y ∈ o.2.2,tg s y):Mv g s (s.oset k o):=Mv.quiet (t.oset k ho) rfl (fun _ _ _=>rfl) rfl rfl
theorem Mv.csset (t:TI s) (k:Int) {a:AC} (ha:∀ b,∀ y ∈ a.mine b,tg s y):Mv g s (s.csset k a):=Mv.quiet (t.csset k ha) rfl (fun _ _ _=>rfl) rfl rfl
theorem tg_le {y:W} (h:tg s y) (he:s.ev ≤ s'.ev):tg s' y:=⟨h.1,by have:=h.2; omega⟩
theorem Mv.offers (t:TI s) (p:Pg) (a:Int) (hg:0 ≤ g) {u:Int} (hu:0 ≤ u∧u < s.ev) (l:List Cs) (hl:∀ c ∈ l,0 ≤ c.2):Mv g s (s.offers g u l):=by
 refine Mv.upto (n:=l.length) (fun k q=>q.ev=s.ev) (fun k q hk hp tq=>?_) l.length 0 s (by omega) rfl t
 have hc:=hl (l.getD k (false,0)) (by rw [Y6c hk]; exact List.getElem_mem hk)
 exact ⟨Mv.offer tq ⟨hu.1,by show u < q.ev; omega⟩ _ hc _,hp⟩
theorem Mv.act (h:GI s (-1)) (t:TI s) {c:Cho} (hc:c ∈ s.chs) (he:0 ≤ s.ev) (h9:(s.instr c.1).1 ≠ 9):Mv c.1 s (s.act c):=by
 obtain ⟨_,r,h1,h2⟩:=Y2y h hc
 have hi:=r.inok h
 have hg:=r.hg
 have hst:=r.st
 have hkr:(s.instr c.1).1=1 ∨ (s.instr c.1).1=2 ∨ (s.instr c.1).1=3→0 ≤ (s.instr c.1).2.1∧(s.instr c.1).2.1 < s.cs.length:=by
  intro q
  have h1:=hi.2.1
  rw [h.cl]
  rcases q with q | q | q <;> (rw [q] at h1; exact h1)
 have tl:∀ (k o n u:Int),-1 ≤ u→u ≤ s.ev→Mv c.1 s (s.tell (c.1,k,o,n,u)):=fun k o n u a b=>Mv.tell t rfl hg a b
 have own:∀ e:Ev,tg (s.tell e) (c.1,0,s.ev):=fun e=>⟨he,by show s.ev < s.ev+1; omega⟩
 unfold MS.act
 by_cases c0:(s.instr c.1).1=0
 ·rw [if_pos c0]; exact Mv.on t hg.1
 rw [if_neg c0]
 by_cases c1:(s.instr c.1).1=1
 ·rw [if_pos c1]
  have m:=tl 2 (s.instr c.1).2.1 0 (-1) (by omega) (by omega)
  exact m.trans (Mv.pass (h.tell _) m.ti (x:=(c.1,0,s.ev)) hg rfl (own _) (hkr (.inl c1)) true)
 rw [if_neg c1]
 by_cases c2:(s.instr c.1).1=2
 ·rw [if_pos c2]
  have m:=tl 4 (s.instr c.1).2.1 0 (-1) (by omega) (by omega)
  exact m.trans (Mv.pass (h.tell _) m.ti (x:=(c.1,0,s.ev)) hg rfl (own _) (hkr (.inr (.inl c2))) false)
 rw [if_neg c2]
 by_cases c3:(s.instr c.1).1=3
 ·rw [if_pos c3]
  have ha:=hkr (.inr (.inr c3))
  unfold MS.shutO
  split
  ·exact Mv.st t 3
  ·have hkk:(((s.instr c.1).2.1.toNat:Nat):Int)=(s.instr c.1).2.1:=by omega
   have hrt:∀ y ∈ (s.ch (s.instr c.1).2.1).recvs,tg s y:=fun y hy=>t.c (s.instr c.1).2.1.toNat false y (by rw [hkk]; exact hy)
   have m1:Mv c.1 s (s.csset (s.instr c.1).2.1 (s.ch (s.instr c.1).2.1).close):=Mv.csset t _ (fun b y hy=>by
    have hkk2:∀ b,∀ y ∈ (s.ch (s.instr c.1).2.1).mine b,tg s y:=fun b y hy=>t.c (s.instr c.1).2.1.toNat b y (by rw [hkk]; exact hy)
    cases b with
    | true=>exact hkk2 true y hy
    | false=>cases hy)
   have m2:Mv c.1 s ((s.csset (s.instr c.1).2.1 (s.ch (s.instr c.1).2.1).close).tell (c.1,7,(s.instr c.1).2.1,0,-1)):=m1.trans (Mv.tell m1.ti rfl hg (by show (-1:Int) ≤ -1; omega) (by show (-1:Int) ≤ s.ev; omega))
   have m3:Mv c.1 s (((s.csset (s.instr c.1).2.1 (s.ch (s.instr c.1).2.1).close).tell (c.1,7,(s.instr c.1).2.1,0,-1)).on c.1):=m2.trans (Mv.on m2.ti hg.1)
   refine m3.trans (Mv.shutL m3.ti _ _ (fun x hx=>?_))
   have hf:=h.cw' ha false x hx
   have hst1:(s.g x.1).2.2.1=1:=hf.1.2.2.resolve_right (fun q=>by have:=hf.1.1; omega)
   have hne:x.1 ≠ c.1:=fun q=>by rw [q] at hst1; omega
   refine ⟨⟨hf.1.1,by rw [m3.len]; exact hf.1.2.1⟩,?_,tg_le (hrt x hx) m3.ev⟩
   rw [show ((((s.csset (s.instr c.1).2.1 (s.ch (s.instr c.1).2.1).close).tell (c.1,7,(s.instr c.1).2.1,0,-1)).on c.1).g x.1)=s.g x.1 from on_g _ hg.1 hf.1.1 hne]
   exact hst1
 rw [if_neg c3]
 by_cases c4:(s.instr c.1).1=4
 ·rw [if_pos c4]
  have hsb:=Yew h r c4
  have m:=tl 8 (s.instr c.1).2.1 0 (-1) (by omega) (by omega)
  unfold MS.selO
  split
  ·rename_i hk
   have hk:=(h1 hk).2.1
   have hcz:=Y2k h.rp hsb hk
   rw [← h.cl] at hcz
   exact m.trans (Mv.pass (h.tell _) m.ti (x:=(c.1,c.2,s.ev)) hg rfl ⟨he,by show s.ev < s.ev+1; omega⟩ hcz _)
  ·split
   ·have m2:=m.trans (Mv.tell (e:=(c.1,9,(s.instr c.1).2.1,0,s.ev)) m.ti rfl hg (by show -1 ≤ s.ev; omega) (by show s.ev ≤ s.ev+1; omega))
    exact m2.trans (Mv.on m2.ti hg.1)
   ·have m2:=m.trans (Mv.offers (u:=s.ev) m.ti s.p 0 hg.1 ⟨he,by show s.ev < s.ev+1; omega⟩ (selAt s.p (s.instr c.1).2.1).1 (fun x hx=>by
     obtain ⟨n,hn,e⟩:=List.mem_iff_getElem.1 hx
     have:=(Y2k h.rp hsb (k:=(n:Int)) (by omega)).1
     unfold caseAt at this
     rw [show ((n:Int)).toNat=n by omega,Y6c hn,e] at this
     exact this))
    exact m2.trans (Mv.wait m2.ti hg.1)
 rw [if_neg c4]
 by_cases c5:(s.instr c.1).1=5
 ·rw [if_pos c5]
  have m:=tl 10 (s.instr c.1).2.1 0 (-1) (by omega) (by omega)
  have ha:=r.la h (.inl c5)
  unfold MS.lock
  split
  ·have m2:=m.trans (Mv.lset m.ti (s.instr c.1).2.1 (l:=(true,[])) (fun y hy=>by cases hy))
   have m3:=m2.trans (Mv.tell (e:=(c.1,11,(s.instr c.1).2.1,0,s.ev)) m2.ti rfl hg (by show -1 ≤ s.ev; omega) (by show s.ev ≤ s.ev+1; omega))
   exact m3.trans (Mv.on m3.ti hg.1)
  ·have m2:=m.trans (Mv.lset m.ti (s.instr c.1).2.1 (l:=(true,(s.lk (s.instr c.1).2.1).2++[(c.1,0,s.ev)])) (fun y hy=>by
    rcases List.mem_append.1 hy with q | q
    ·exact m.ti.l (s.instr c.1).2.1.toNat y (by rw [show (((s.instr c.1).2.1.toNat:Nat):Int)=(s.instr c.1).2.1 by omega]; exact q)
    ·rw [List.mem_singleton.1 q]; exact own _))
   exact m2.trans (Mv.wait m2.ti hg.1)
 rw [if_neg c5]
 by_cases c6:(s.instr c.1).1=6
 ·rw [if_pos c6]
  have ha:=r.la h (.inr c6)
  have hkk:(((s.instr c.1).2.1.toNat:Nat):Int)=(s.instr c.1).2.1:=by omega
  have hrt:∀ y ∈ (s.lk (s.instr c.1).2.1).2,tg s y:=fun y hy=>t.l (s.instr c.1).2.1.toNat y (by rw [hkk]; exact hy)
  have hlw:=h.lw' ha
  unfold MS.unlock
  split
  ·exact Mv.st t 3
  have hgl:∀ y ∈ (given (s.lk (s.instr c.1).2.1).2).1.2,tg s y:=by
   cases hq:(s.lk (s.instr c.1).2.1).2 with
   | nil=>intro y hy; cases hy
   | cons x l=>intro y hy; exact hrt y (by rw [hq]; exact List.mem_cons_of_mem _ hy)
  have m1:=Mv.lset (g:=c.1) t (s.instr c.1).2.1 hgl
  have m2:=m1.trans (Mv.tell (e:=(c.1,12,(s.instr c.1).2.1,0,-1)) m1.ti rfl hg (by show (-1:Int) ≤ -1; omega) (by show (-1:Int) ≤ s.ev; omega))
  have m3:=m2.trans (Mv.on m2.ti hg.1)
  split
  ·rename_i c7
   obtain ⟨x,l,e1,e3⟩:∃ x l,(s.lk (s.instr c.1).2.1).2=x :: l∧(given (s.lk (s.instr c.1).2.1).2).2.1=x:=by
    cases hq:(s.lk (s.instr c.1).2.1).2 with
    | nil=>rw [hq] at c7; cases c7
    | cons x l=>exact ⟨x,l,rfl,rfl⟩
   have hf:=hlw x (by rw [e1]; exact List.mem_cons_self ..)
   have hst1:(s.g x.1).2.2.1=1:=hf.1.2.2.resolve_right (fun q=>by have:=hf.1.1; omega)
   have hne:x.1 ≠ c.1:=fun q=>by rw [q] at hst1; omega
   have htx:=hrt x (by rw [e1]; exact List.mem_cons_self ..)
   rw [e3]
   generalize hS:((s.lset (s.instr c.1).2.1 (given (s.lk (s.instr c.1).2.1).2).1).tell (c.1,12,(s.instr c.1).2.1,0,-1)).on c.1=S at *
   have hgx:S.g x.1=s.g x.1:=by rw [← hS]; exact on_g _ hg.1 hf.1.1 hne
   have hx:0 ≤ x.1∧x.1 < S.gs.length:=by rw [m3.len]; exact ⟨hf.1.1,hf.1.2.1⟩
   have he3:=m3.ev
   have e2:=htx.2
   have e1:=htx.1
   refine m3.trans ⟨List.length_set,by show S.ev ≤ S.ev+1; omega,⟨[(x.1,11,(s.instr c.1).2.1,0,x.2.2)],rfl,fun j h0 h1 h2=>?_,fun y hy=>?_⟩,m3.ti.ev rfl rfl rfl (by show S.ev ≤ S.ev+1; omega)⟩
   ·by_cases e:j=x.1
    ·subst e
     refine .inr ⟨by rw [hgx]; exact hst1,Y3d rfl,?_⟩
     show (gAt (S.gs.set (toN x.1) _) x.1).2.2.1 ≠ 1
     rw [Y69 hx]
     show (if _ then (2:Int) else 0) ≠ 1
     split <;> omega
    ·exact .inl ⟨gAt_ne hx.1 h1 (Ne.symm e) _,Y3e (fun q=>e q.symm)⟩
   ·rw [List.mem_singleton.1 hy]
    exact ⟨hx,by show -1 ≤ x.2.2; omega,by show x.2.2 < S.ev+1; omega⟩
  ·exact m3
 rw [if_neg c6]
 by_cases c7:(s.instr c.1).1=7
 ·rw [if_pos c7]
  have m:=tl 13 (s.instr c.1).2.1 0 (-1) (by omega) (by omega)
  have ha:=r.oa h (.inl c7)
  have hkk:(((s.instr c.1).2.1.toNat:Nat):Int)=(s.instr c.1).2.1:=by omega
  have hd:∀ y ∈ (Go.Proofs.YthdlpkdojipfhaaGreat.VX.VxM_M.done (s.oc (s.instr c.1).2.1) (c.1,0,s.ev)).1.2.2,tg (s.tell (c.1,13,(s.instr c.1).2.1,0,-1)) y:=by
   have hold:∀ y ∈ (s.oc (s.instr c.1).2.1).2.2,tg (s.tell (c.1,13,(s.instr c.1).2.1,0,-1)) y:=fun y hy=>m.ti.o (s.instr c.1).2.1.toNat y (by rw [hkk]; exact hy)
   unfold Go.Proofs.YthdlpkdojipfhaaGreat.VX.VxM_M.done
   intro y hy
   split at hy
   ·cases hy
   split at hy
   ·exact hold y hy
   split at hy
   ·cases hy
   ·have hoo:=h.ookk ha
    have how:=h.ow' ha
    have hw:isW (c.1,0,s.ev):=⟨r.hg.1,by show (0:Int) ≤ 0; omega,he⟩
    have hnw:newW (s.oc (s.instr c.1).2.1).2.2 (c.1,0,s.ev):=Ybm h hoo.2.1 (fun y hy=>⟨(how y hy).1,(how y hy).2.1⟩) (by have:=r.st; omega)
    rw [Yba hoo.2.1 hw hnw] at hy
    rcases List.mem_append.1 (show y ∈ (s.oc (s.instr c.1).2.1).2.2++[(c.1,0,s.ev)] from hy) with q | q
    ·exact hold y q
    ·rw [List.mem_singleton.1 q]; exact own _
  unfold MS.doO
  split
  ·exact m.trans (Mv.wait m.ti hg.1)
  have m2:=m.trans (Mv.oset m.ti (s.instr c.1).2.1 hd)
  split
  ·exact m2.trans (Mv.on m2.ti hg.1)
  split
  ·exact m2.trans (Mv.wait m2.ti hg.1)
  ·exact m2.trans (Mv.skip m2.ti (x:=(c.1,0,s.ev)) hg (.inl rfl) ⟨he,by show s.ev ≤ s.ev+1; omega⟩)
 rw [if_neg c7]
 by_cases c8:(s.instr c.1).1=8
 ·rw [if_pos c8]
  have ha:=r.oa h (.inr c8)
  have hkk:(((s.instr c.1).2.1.toNat:Nat):Int)=(s.instr c.1).2.1:=by omega
  have how:=h.ow' ha
  unfold MS.endO
  split
  ·have m1:=Mv.oset (g:=c.1) t (s.instr c.1).2.1 (o:=(2,0,[])) (fun y hy=>by cases hy)
   have m2:=m1.trans (Mv.tell (e:=(c.1,14,(s.instr c.1).2.1,0,-1)) m1.ti rfl hg (by show (-1:Int) ≤ -1; omega) (by show (-1:Int) ≤ s.ev; omega))
   have m3:=m2.trans (Mv.on m2.ti hg.1)
   refine m3.trans (Mv.skips m3.ti _ (fun x hx=>?_) ?_)
   ·have hf:=how x hx
    have hst1:(s.g x.1).2.2.1=1:=hf.1.2.2.resolve_right (fun q=>by have:=hf.1.1; omega)
    have hne:x.1 ≠ c.1:=fun q=>by rw [q] at hst1; omega
    refine ⟨⟨hf.1.1,by rw [m3.len]; exact hf.1.2.1⟩,?_,tg_le (t.o (s.instr c.1).2.1.toNat x (by rw [hkk]; exact hx)) m3.ev⟩
    rw [show ((((s.oset (s.instr c.1).2.1 (2,0,[])).tell (c.1,14,(s.instr c.1).2.1,0,-1)).on c.1).g x.1)=s.g x.1 from on_g _ hg.1 hf.1.1 hne]
    exact hst1
   ·have hn:=(h.ookk ha).2.1.2.2
    have:(s.oc (s.instr c.1).2.1).2.2.map keyW=((s.oc (s.instr c.1).2.1).2.2.map fun x=>x.1).map fun a=>(a,(0:Int)):=by
     rw [List.map_map]
     refine List.map_congr_left fun x hx=>?_
     show keyW x=(x.1,0)
     unfold keyW
     rw [(how x hx).2.1]
    rw [this] at hn
    exact List.Pairwise.of_map (fun a=>(a,(0:Int))) (fun a b q e=>q (by rw [e])) hn
  ·exact Mv.st t 3
 rw [if_neg c8,if_neg h9]
 have acc:∀ k:Int,Mv c.1 s (s.access k c.1 (s.instr c.1).2.1):=fun k=>by
  have m:=tl k (s.instr c.1).2.1 0 (-1) (by omega) (by omega)
  exact m.trans (Mv.on m.ti hg.1)
 by_cases c10:(s.instr c.1).1=10
 ·rw [if_pos c10]; exact acc 16
 rw [if_neg c10]
 by_cases c11:(s.instr c.1).1=11
 ·rw [if_pos c11]; exact acc 17
 rw [if_neg c11]
 by_cases c12:(s.instr c.1).1=12
 ·rw [if_pos c12]; exact Mv.to t hg.1 _
 rw [if_neg c12]
 unfold MS.orElse
 split
 ·exact Mv.to t hg.1 _
 ·exact Mv.on t hg.1
end
end Go.Proofs.YthdlpkdojipfhaaGreat.VX.VxM_M
set_option linter.unusedVariables false
set_option linter.unusedSimpArgs false
namespace Go.Proofs.YthdlpkdojipfhaaGreat.VX.VxM_M
open Go.Proofs
section
variable {s s':MS} {g:Int}
def StK (s s':MS):Prop:=s'.st=s.st ∨ ((s'.st=3 ∨ s'.st=4)∧s'.gs=s.gs)
theorem Y43 (s:MS) (x:W) (k no:Int) (b:Bool):(s.done x k no b).st=s.st:=by
 unfold MS.done MS.done1
 split
 ·rfl
 ·split <;> rfl
theorem Yas (s:MS) (x:W) (k:Int) (b:Bool):StK s (s.pass x k b):=by
 unfold MS.pass
 split
 ·exact .inl rfl
 ·split
  ·exact .inr ⟨.inl rfl,rfl⟩
  ·left
   rw [Y43]
   split
   ·rfl
   ·rw [Y43]; rfl
theorem Yh9 (nx:Nat→MS→MS) (h:∀ k s,(nx k s).st=s.st):∀ m k s,(upto nx k m s).st=s.st
 | 0,k,s=>rfl
 | m+1,k,s=>(Yh9 nx h m (k+1) (nx k s)).trans (h k s)
theorem Yfh (s:MS) (k:Int) (l:List W):(s.shutL k l).st=s.st:=by
 have:∀ m j (q:MS × List Int),(upto (MS.shutS k l) j m q).1.st=q.1.st:=by
  intro m
  induction m with
  | zero=>exact fun j q=>rfl
  | succ m ih =>
   intro j q
   refine (ih (j+1) (MS.shutS k l j q)).trans ?_
   unfold MS.shutS
   split
   ·rfl
   ·exact Y43 _ _ _ _ _
 exact this l.length 0 (s,[])
theorem Yab (s:MS) (g t:Int) (l:List Cs):(s.offers g t l).st=s.st:=by
 unfold MS.offers
 exact Yh9 (fun n (s:MS)=>(s.offer (g,(n:Int),t) (l.getD n (false,0)).2 (l.getD n (false,0)).1).2) (fun k q=>rfl) _ _ _
theorem Yfq (s:MS) (l:List W):(s.skips l).st=s.st:=by
 unfold MS.skips
 exact Yh9 (fun k (s:MS)=>s.skip (l.getD k zeroW).1 (l.getD k zeroW).2.2) (fun k q=>rfl) _ _ _
theorem Y12 {P:MS→Prop} (s:MS) (c:Cho) (h0:P (s.on c.1)) (h1:P (s.sendO c.1 (s.instr c.1).2.1)) (h2:P (s.recvO c.1 (s.instr c.1).2.1)) (h3:P (s.shutO c.1 (s.instr c.1).2.1)) (h4:P (s.selO c.1 c.2 (s.instr c.1).2.1)) (h5:P (s.lock c.1 (s.instr c.1).2.1)) (h6:P (s.unlock c.1 (s.instr c.1).2.1)) (h7:P (s.doO c.1 (s.instr c.1).2.1)) (h8:P (s.endO c.1 (s.instr c.1).2.1)) (h9:P (s.beginO c.1 (s.instr c.1).2.1)) (h10:P (s.access 16 c.1 (s.instr c.1).2.1)) (h11:P (s.access 17 c.1 (s.instr c.1).2.1)) (h12:P (s.to c.1 (s.instr c.1).2.1)) (h13:P (s.orElse c.1 (s.instr c.1).2.1)):P (s.act c):=by
 unfold MS.act
 by_cases c0:(s.instr c.1).1=0
 ·rw [if_pos c0]; exact h0
 rw [if_neg c0]
 by_cases c1:(s.instr c.1).1=1
 ·rw [if_pos c1]; exact h1
 rw [if_neg c1]
 by_cases c2:(s.instr c.1).1=2
 ·rw [if_pos c2]; exact h2
 rw [if_neg c2]
 by_cases c3:(s.instr c.1).1=3
 ·rw [if_pos c3]; exact h3
 rw [if_neg c3]
 by_cases c4:(s.instr c.1).1=4
 ·rw [if_pos c4]; exact h4
 rw [if_neg c4]
 by_cases c5:(s.instr c.1).1=5
 ·rw [if_pos c5]; exact h5
 rw [if_neg c5]
 by_cases c6:(s.instr c.1).1=6
 ·rw [if_pos c6]; exact h6
 rw [if_neg c6]
 by_cases c7:(s.instr c.1).1=7
 ·rw [if_pos c7]; exact h7
 rw [if_neg c7]
 by_cases c8:(s.instr c.1).1=8
 ·rw [if_pos c8]; exact h8
 rw [if_neg c8]
 by_cases c9:(s.instr c.1).1=9
 ·rw [if_pos c9]; exact h9
 rw [if_neg c9]
 by_cases c10:(s.instr c.1).1=10
 ·rw [if_pos c10]; exact h10
 rw [if_neg c10]
 by_cases c11:(s.instr c.1).1=11
 ·rw [if_pos c11]; exact h11
 rw [if_neg c11]
 by_cases c12:(s.instr c.1).1=12
 ·rw [if_pos c12]; exact h12
 rw [if_neg c12]
 exact h13
theorem act_st (s:MS) (c:Cho):StK s (s.act c):=by
 refine Y12 (P:=fun q=>StK s q) s c ?_ ?_ ?_ ?_ ?_ ?_ ?_ ?_ ?_ ?_ ?_ ?_ ?_ ?_
 ·exact .inl rfl
 ·exact Yas (s.tell (c.1,2,(s.instr c.1).2.1,0,-1)) _ _ _
 ·exact Yas (s.tell (c.1,4,(s.instr c.1).2.1,0,-1)) _ _ _
 ·unfold MS.shutO
  split
  ·exact .inr ⟨.inl rfl,rfl⟩
  ·left; rw [Yfh]; rfl
 ·unfold MS.selO
  split
  ·exact Yas (s.tell (c.1,8,(s.instr c.1).2.1,0,-1)) _ _ _
  ·split
   ·exact .inl rfl
   ·left
    exact Yab _ _ _ _
 ·unfold MS.lock
  split <;> exact .inl rfl
 ·unfold MS.unlock
  split
  ·exact .inr ⟨.inl rfl,rfl⟩
  ·split <;> exact .inl rfl
 ·unfold MS.doO
  split
  ·exact .inl rfl
  split
  ·exact .inl rfl
  split <;> exact .inl rfl
 ·unfold MS.endO
  split
  ·left
   exact Yfq _ _
  ·exact .inr ⟨.inl rfl,rfl⟩
 ·unfold MS.beginO
  split
  ·exact .inr ⟨.inr rfl,rfl⟩
  ·exact .inl rfl
 ·exact .inl rfl
 ·exact .inl rfl
 ·exact .inl rfl
 ·unfold MS.orElse
  split <;> exact .inl rfl
structure SS (s:MS):Prop where
 go:s.st=0→anyS s.gs 0=true
 all:s.st=1→∀ x ∈ s.gs,x.2.2.1=2
 dead:s.st=2→(∀ x ∈ s.gs,x.2.2.1 ≠ 0)∧∃ x ∈ s.gs,x.2.2.1=1
 odd:s.st ≠ 0→s.st ≠ 1→∃ x ∈ s.gs,x.2.2.1 ≠ 2
theorem Y19 (gs:List Gor) (n:Int):anyS gs n=true ↔ ∃ x ∈ gs,x.2.2.1=n:=by
 unfold anyS
 rw [List.any_eq_true]
 constructor
 ·rintro ⟨x,hx,e⟩; exact ⟨x,hx,by simpa using e⟩
 ·rintro ⟨x,hx,e⟩; exact ⟨x,hx,by simpa using e⟩
theorem Yfe (hg:∀ x ∈ s.gs,0 ≤ x.2.2.1∧x.2.2.1 ≤ 2) (h:s.st=0 ∨ ((s.st=3 ∨ s.st=4)∧∃ x ∈ s.gs,x.2.2.1 ≠ 2)):SS s.settle:=by
 unfold MS.settle
 rcases h with h | ⟨h1,h2⟩
 ·by_cases c1:anyS s.gs 0=true
  ·rw [if_pos (.inr c1)]
   exact ⟨fun _=>c1,fun q=>by omega,fun q=>by omega,fun q _=>absurd h q⟩
  ·rw [if_neg (fun q=>q.elim (fun z=>z h) c1)]
   have h0:∀ x ∈ s.gs,x.2.2.1 ≠ 0:=fun x hx e=>c1 ((Y19 _ _).2 ⟨x,hx,e⟩)
   by_cases c2:anyS s.gs 1=true
   ·rw [if_pos c2]
    obtain ⟨x,hx,e⟩:=(Y19 _ _).1 c2
    exact ⟨fun q=>by have:(2:Int)=0:=q; omega,fun q=>by have:(2:Int)=1:=q; omega,fun _=>⟨h0,x,hx,e⟩,fun _ _=>⟨x,hx,by omega⟩⟩
   ·rw [if_neg c2]
    have h1:∀ x ∈ s.gs,x.2.2.1 ≠ 1:=fun x hx e=>c2 ((Y19 _ _).2 ⟨x,hx,e⟩)
    exact ⟨fun q=>by have:(1:Int)=0:=q; omega,fun _ x hx=>by have:=h0 x hx; have:=h1 x hx; have:=hg x hx; omega,fun q=>by have:(1:Int)=2:=q; omega,fun _ q=>absurd rfl q⟩
 ·rw [if_pos (.inl (by omega))]
  exact ⟨fun q=>by omega,fun q=>by omega,fun q=>by omega,fun _ _=>h2⟩
theorem Yge (h:GI s (-1)) {c:Cho} (hc:c ∈ s.chs) (ha:GI (s.clear.act c) (-1)):SS (s.step c):=by
 obtain ⟨h0,r,_,_⟩:=Y2y h hc
 refine Yfe (gi_st ha) ?_
 rcases act_st s.clear c with e | ⟨e1,e2⟩
 ·exact .inl (e.trans h0)
 ·refine .inr ⟨e1,gAt s.gs c.1,by rw [e2]; exact Y68 r.hg,?_⟩
  have:=r.st
  show (s.g c.1).2.2.1 ≠ 2
  omega
theorem new_ss {p:Pg} (hp:RightP p):SS (MS.new p):=by
 have hsz:=hp.sizes
 unfold Yfl at hsz
 simp only [Bool.and_eq_true,decide_eq_true_eq,Y6p] at hsz
 refine Yfe (fun x hx=>?_) (.inl rfl)
 have:x=gTo p (0,0,0,false) 0:=List.mem_singleton.1 hx
 rw [this]
 show 0 ≤ (if (0:Int)=_ then (2:Int) else 0)∧(if (0:Int)=_ then (2:Int) else 0) ≤ 2
 split <;> omega
theorem Y2z (h:SS s):s.chs=[] ↔ s.st ≠ 0:=by
 constructor
 ·intro e q
  obtain ⟨x,hx,e0⟩:=(Y19 _ _).1 (h.go q)
  obtain ⟨k,hk,ek⟩:=List.mem_iff_getElem.1 hx
  unfold MS.chs at e
  rw [if_neg (fun z=>z q)] at e
  have hg:s.g (k:Int)=x:=by
   show s.gs.getD (k:Int).toNat zGor=x
   rw [show (k:Int).toNat=k by omega,Y6c hk,ek]
  have:s.choG (k:Int) ≠ []:=by
   unfold MS.choG
   rw [if_neg (by rw [hg,e0]; simp)]
   split
   ·simp
   ·assumption
  have:=List.flatMap_eq_nil_iff.1 e k (List.mem_range.2 hk)
  contradiction
 ·intro q
  unfold MS.chs
  rw [if_pos q]
end
end Go.Proofs.YthdlpkdojipfhaaGreat.VX.VxM_M
set_option linter.unusedVariables false
set_option linter.unusedSimpArgs false
namespace Go.Proofs.YthdlpkdojipfhaaGreat.VX.VxM_M
open Go.Proofs
def pk (P:List Int) (n:Nat):Nat:=match P with | []=>0 | a :: _=>(a % (n:Int)).toNat
structure Pl where
 s:MS
 L:List Ev
 C:List Cho
 Wd:List Int
def play:Nat→MS→List Int→Pl
 | 0,s,_=>⟨s,[],[],[]⟩
 | k+1,s,P=>if s.st ≠ 0 then ⟨s,[],[],[]⟩ else
  let c:=s.chs.getD (pk P s.chs.length) (0,0)
  let r:=play k (s.step c) P.tail
  ⟨r.s,(s.step c).L++r.L,c :: r.C,(s.chs.length:Int) :: r.Wd⟩
def left:Nat→MS→List Int→List Int
 | 0,_,P=>P
 | k+1,s,P=>if s.st ≠ 0 then P else left k (s.step (s.chs.getD (pk P s.chs.length) (0,0))) P.tail
theorem pk_lt (P:List Int) {n:Nat} (h:0 < n):pk P n < n:=by
 unfold pk
 cases P with
 | nil=>exact h
 | cons a l =>
  have h1:=Int.emod_nonneg a (show (n:Int) ≠ 0 by omega)
  have h2:=Int.emod_lt_of_pos a (show (0:Int) < n by omega)
  simp only
  omega
theorem Ygx (a:Int) (n:Nat) (h:0 < n):(if Int.tmod a n < 0 then Int.tmod a n+n else Int.tmod a n)=a % (n:Int):=by
 rw [Int.tmod_eq_emod]
 have h1:=Int.emod_nonneg a (show (n:Int) ≠ 0 by omega)
 have h2:=Int.emod_lt_of_pos a (show (0:Int) < n by omega)
 split
 ·split <;> omega
 ·rename_i hc
  rw [not_or] at hc
  have hnd:a % (n:Int) ≠ 0:=fun e=>hc.2 (Int.dvd_of_emod_eq_zero e)
  split <;> omega
theorem next_x (P:List Int) (n:Nat) (h:0 < n) (hn:n ≤ 1000) (hP:P.length ≤ 4294967296):Z8p ((n:Int),P)=some ((pk P n:Int),P.tail):=by
 unfold Z8p
 simp only
 cases P with
 | nil=>rfl
 | cons a l =>
  have ht:=Ygx a n h
  have hg:getAt (0:Int) (a :: l) (toN 0)=a:=rfl
  have hcut:cut (a :: l) (toN 1) (toN (((a :: l).length:Nat):Int) - toN 1)=l:=by
   unfold cut toN
   simp
  have hl:(a :: l).length=l.length+1:=rfl
  have e1:=Int.emod_nonneg a (show (n:Int) ≠ 0 by omega)
  have e2:=Int.emod_lt_of_pos a (show (0:Int) < n by omega)
  have hb1:Int.tmod a n < n:=Int.tmod_lt_of_pos a (by omega)
  have hb2:-(n:Int) < Int.tmod a n:=by
   have:=Int.lt_tmod_of_pos a (show (0:Int) < n by omega)
   simpa using this
  rw [bif_f (beq_eq_false_iff_ne.2 (by omega)),bif_t (inbL.2 (by omega)),bif_t (bne_iff_ne.2 (by omega)),bif_t (sub3L.2 (by omega)),hg,hcut]
  show (bif decide (Int.tmod a n < 0) then _ else _)=some ((((a % (n:Int)).toNat:Nat):Int),l)
  rw [show (((a % (n:Int)).toNat:Nat):Int)=a % (n:Int) by omega,← ht]
  by_cases c:Int.tmod a n < 0
  ·rw [bif_t (decide_eq_true c),if_pos c,wrapI (by omega) (by omega)]
  ·rw [bif_f (decide_eq_false c),if_neg c]
structure RunOK (n:Nat) (s:MS) (cs:List Ch):Prop where
 g:GoodN n s cs
 ss:SS s
theorem RunOK.step {n:Nat} {s:MS} {cs:List Ch} (h:RunOK n s cs) (hn:n ≤ 1000) {c:Cho} (hc:c ∈ s.chs):∃ cs',RunOK (n+1) (s.step c) cs'∧Z1a (s.w cs,c)=some ((s.step c).w cs',(s.step c).L,0)∧(s.step c).L.length ≤ 70:=by
 obtain ⟨cs',g1,e1⟩:=h.g.step hn hc
 have hb:s.clear.Bd 100:=⟨by show 0+100 ≤ 900000; omega,h.g.ev.1,by show s.ev+100 ≤ 3000000; have:=h.g.ev.2; omega⟩
 exact ⟨cs',⟨g1,Yge h.g.gi hc (act_gi (s:=s.clear) (cs:=cs) h.g.rel h.g.gi.clear hc hb (fun a ha=>by have:=h.g.sent a ha; omega))⟩,e1,Ygc h.g hc⟩
theorem RunOK.pick {n:Nat} {s:MS} {cs:List Ch} (h:RunOK n s cs) (h0:s.st=0) (P:List Int):0 < s.chs.length∧s.chs.length ≤ 32∧s.chs.getD (pk P s.chs.length) (0,0) ∈ s.chs:=by
 have hne:s.chs ≠ []:=fun e=>(Y2z h.ss).1 e h0
 have hp:0 < s.chs.length:=List.length_pos_iff.2 hne
 exact ⟨hp,Y2x h.g.gi,Y92 (pk_lt P hp) _⟩
theorem Yb3 (N:Int) (hN:N ≤ 400):∀ (k n:Nat) (s:MS) (cs:List Ch) (P:List Int) (L:List Ev) (C:List Cho) (Wd:List Int),(n:Int)+k=N→RunOK n s cs→P.length ≤ 4294967296→L.length ≤ 1+70 * n→C.length ≤ n→Wd.length ≤ n →
  ∃ cs',RelCs cs' (play k s P).s.cs∧loop Zde (N,(n:Int),P,0,s.w cs,0,Wd,L,C)=some (left k s P,0,(play k s P).s.w cs',0,Wd++(play k s P).Wd,L++(play k s P).L,C++(play k s P).C)
 | 0,n,s,cs,P,L,C,Wd,hn,h,hP,hL,hC,hWd=>by
  refine ⟨cs,h.g.rel,?_⟩
  rw [Y87]
  unfold Zde
  simp only
  rw [bif_f (decide_eq_false (by omega))]
  show _=some (P,0,s.w cs,0,Wd++[],L++[],C++[])
  rw [List.append_nil,List.append_nil,List.append_nil]
 | k+1,n,s,cs,P,L,C,Wd,hn,h,hP,hL,hC,hWd=>by
  rw [Y87]
  by_cases h0:s.st=0
  case neg =>
   refine ⟨cs,?_,?_⟩
   ·show RelCs cs (if s.st ≠ 0 then (⟨s,[],[],[]⟩:Pl) else _).s.cs
    rw [if_pos h0]; exact h.g.rel
   ·have e1:play (k+1) s P=⟨s,[],[],[]⟩:=if_pos h0
    have e2:left (k+1) s P=P:=if_pos h0
    rw [e1,e2]
    unfold Zde
    simp only
    rw [bif_t (decide_eq_true (by omega)),bif_t (bne_iff_ne.2 h0),List.append_nil,List.append_nil,List.append_nil]
  obtain ⟨p1,p2,p3⟩:=h.pick h0 P
  obtain ⟨cs1,g1,f1,f2⟩:=h.step (by omega) p3
  have e1:play (k+1) s P=⟨(play k (s.step (s.chs.getD (pk P s.chs.length) (0,0))) P.tail).s,(s.step (s.chs.getD (pk P s.chs.length) (0,0))).L++(play k (s.step (s.chs.getD (pk P s.chs.length) (0,0))) P.tail).L,s.chs.getD (pk P s.chs.length) (0,0) :: (play k (s.step (s.chs.getD (pk P s.chs.length) (0,0))) P.tail).C,(s.chs.length:Int) :: (play k (s.step (s.chs.getD (pk P s.chs.length) (0,0))) P.tail).Wd⟩:=if_neg (fun q=>q h0)
  have e2:left (k+1) s P=left k (s.step (s.chs.getD (pk P s.chs.length) (0,0))) P.tail:=if_neg (fun q=>q h0)
  rw [e1,e2]
  have hget:getAt ((0:Int),(0:Int)) s.chs (toN ((pk P s.chs.length:Nat):Int))=s.chs.getD (pk P s.chs.length) (0,0):=by rw [Y6a]; rfl
  have hpl:=pk_lt P p1
  generalize hc:s.chs.getD (pk P s.chs.length) (0,0)=c at *
  have hf:Zde (N,(n:Int),P,0,s.w cs,0,Wd,L,C)=some (.inl (N,((n+1:Nat):Int),P.tail,0,(s.step c).w cs1,0,Wd++[(s.chs.length:Int)],L++(s.step c).L,C++[c])):=by
   unfold Zde
   simp only
   rw [bif_t (decide_eq_true (by omega)),bif_f (show (s.st != 0)=false by rw [h0]; rfl),Y2w h.g.rel h.g.gi h.g.ev.1]
   simp only [Option.bind_some]
   rw [next_x P s.chs.length p1 (by omega) hP]
   simp only [Option.bind_some]
   rw [bif_t (Y6r hpl),hget,f1]
   simp only [Option.bind_some]
   rw [bif_t (Y5j.2 (by omega)),bif_t (Y5j.2 (by show C.length+1 ≤ _; omega)),bif_t (Y5j.2 (by show Wd.length+1 ≤ _; omega)),wrapI (n:=(n:Int)+1) (by omega) (by omega)]
   rfl
  obtain ⟨cs',r1,r2⟩:=Yb3 N hN k (n+1) (s.step c) cs1 P.tail (L++(s.step c).L) (C++[c]) (Wd++[(s.chs.length:Int)]) (by omega) g1 (by rw [List.length_tail]; omega) (by rw [List.length_append]; omega) (by rw [List.length_append]; show C.length+1 ≤ _; omega) (by rw [List.length_append]; show Wd.length+1 ≤ _; omega)
  refine ⟨cs',r1,?_⟩
  rw [hf]
  simp only
  rw [r2,List.append_assoc,List.append_assoc,List.append_assoc]
  rfl
end Go.Proofs.YthdlpkdojipfhaaGreat.VX.VxM_M
set_option linter.unusedVariables false
set_option linter.unusedSimpArgs false
namespace Go.Proofs.YthdlpkdojipfhaaGreat.VX.VxM_M
open Go.Proofs
abbrev RT:=Int × List Ev × List Cho
def endP (r:Pl):Int:=if r.s.st=0 then 5 else r.s.st
def runP (p:Pg) (P:List Int) (n:Int):RT:=(endP (play n.toNat (MS.new p) P),(0,0,0,0,-1) :: (play n.toNat (MS.new p) P).L,(play n.toNat (MS.new p) P).C)
theorem Y34 (l:List Ev) (h:l.length ≤ 4294967296):Z8v l=some l:=by
 unfold Z8v
 cases l with
 | nil =>
  rw [bif_t (by rfl)]
  unfold amb
  rw [bif_t (Y5j.2 (by simp))]
  simp
 | cons a l =>
  rw [bif_f (by rfl),bif_t (Y5j.2 (by simpa using h))]; rfl
theorem Y9t {p:Pg} (hp:RightP p):∃ cs,RunOK 0 (MS.new p) cs∧Z18 p=some ((MS.new p).w cs,[(0,0,0,0,-1)],0):=by
 obtain ⟨cs,h1,h2⟩:=new_x p (Yct hp)
 rw [if_pos ((Ycs p).2 hp)] at h2
 exact ⟨cs,⟨Y9s hp (h1 hp),new_ss hp⟩,h2⟩
theorem play_x {p:Pg} (hp:RightP p) (P:List Int) (hP:P.length ≤ 4294967296) (n:Int) (hn:1 ≤ n∧n ≤ 400):Z8r (p,n,P)=some (runP p P n,(play n.toNat (MS.new p) P).Wd,left n.toNat (MS.new p) P):=by
 obtain ⟨cs,g0,h2⟩:=Y9t hp
 obtain ⟨cs',r1,r2⟩:=Yb3 n (by omega) n.toNat 0 (MS.new p) cs P [(0,0,0,0,-1)] [] [] (by omega) g0 hP (by show 1 ≤ _; omega) (Nat.le_refl _) (Nat.le_refl _)
 unfold Z8r
 simp only
 rw [h2]
 simp only [Option.bind_some]
 rw [Y34 _ (by show 1 ≤ _; omega)]
 simp only [Option.bind_some]
 rw [show loop Zde (n,0,P,0,(MS.new p).w cs,0,[],[(0,0,0,0,-1)],[])=_ from r2]
 simp only [Option.bind_some]
 unfold runP endP
 by_cases e:(play n.toNat (MS.new p) P).s.st=0
 ·rw [bif_t (beq_iff_eq.2 e),if_pos e]; rfl
 ·rw [bif_f (beq_eq_false_iff_ne.2 e),if_neg e]; rfl
def runF (p:Pg) (P:List Int) (n:Int):RT × Int:=if ¬ rightP p then ((0,[],[]),1) else if n < 1 ∨ 400 < n then ((0,[],[]),2) else (runP p P n,0)
theorem may_x (p:Pg) (hs:small p) (n:Int):Z8n (p,n)=some (if ¬ rightP p then 1 else if n < 1 ∨ 400 < n then 2 else 0):=by
 unfold Z8n
 simp only
 rw [Yam p hs]
 simp only [Option.bind_some]
 by_cases hp:rightP p
 ·rw [decide_eq_true hp,if_neg (fun q=>q hp),bif_f (by rfl)]
  by_cases h1:n < 1
  ·rw [bif_t (decide_eq_true h1),if_pos (.inl h1)]
  rw [bif_f (decide_eq_false h1)]
  by_cases h2:400 < n
  ·rw [bif_t (decide_eq_true h2),if_pos (.inr h2)]
  ·rw [bif_f (decide_eq_false h2),if_neg (fun q=>q.elim h1 h2)]
 ·rw [decide_eq_false hp,if_pos hp,bif_t (by rfl)]
theorem run_x (p:Pg) (hs:small p) (P:List Int) (hP:P.length ≤ 4294967296) (n:Int):Z8l (p,P,n)=some (runF p P n):=by
 unfold Z8l runF
 simp only
 rw [may_x p hs]
 simp only [Option.bind_some]
 by_cases hp:rightP p
 ·simp only [hp,not_true_eq_false,if_false]
  by_cases h:n < 1 ∨ 400 < n
  ·simp only [if_pos h]; rfl
  ·simp only [if_neg h]
   rw [bif_f (by rfl),play_x ((Ycs p).1 hp) P hP n (by omega)]
   rfl
 ·simp only [if_pos hp]; rfl
theorem Y14:Z3s ()=some true:=by
 unfold Z3s
 rw [show Z3w ()=some pp from rfl]
 simp only [Option.bind_some]
 rw [run_x pp (Yct Yb8) [] (by show 0 ≤ _; omega) 9]
 rw [show runF pp [] 9=(runP pp [] 9,0) from rfl]
 simp only [Option.bind_some]
 rfl
theorem Y4w (p:Pg):Z3u p=some (fewP p):=few_x p
end Go.Proofs.YthdlpkdojipfhaaGreat.VX.VxM_M
set_option linter.unusedVariables false
set_option linter.unusedSimpArgs false
namespace Go.Proofs.YthdlpkdojipfhaaGreat.VX.VxM_M
open Go.Proofs
end Go.Proofs.YthdlpkdojipfhaaGreat.VX.VxM_M
set_option linter.unusedVariables false
set_option linter.unusedSimpArgs false
namespace Go.Proofs.YthdlpkdojipfhaaGreat.VX.VxM_M
open Go.Proofs
end Go.Proofs.YthdlpkdojipfhaaGreat.VX.VxM_M
set_option linter.unusedVariables false
set_option linter.unusedSimpArgs false
namespace Go.Proofs.YthdlpkdojipfhaaGreat.VX.VxM_M
open Go.Proofs
theorem Yde (l:List Int) (hl:l.length < 1000):Z3y (l,l)=some true:=Ydr l hl
end Go.Proofs.YthdlpkdojipfhaaGreat.VX.VxM_M
set_option linter.unusedVariables false
set_option linter.unusedSimpArgs false
namespace Go.Proofs.YthdlpkdojipfhaaGreat.VX.VxM_M
open Go.Proofs
def rep:List Cho→MS→Option (List Int)
 | [],_=>some []
 | c :: l,s=>match s.chs.findIdx? (fun x=>decide (c=x)) with
  | none=>none
  | some i=>(rep l (s.step c)).map fun w=>(i:Int) :: w
theorem Y54 {l:List Cho} {c:Cho} {i:Nat} (h:l.findIdx? (fun x=>decide (c=x))=some i):c ∈ l∧i < l.length:=by
 rw [List.findIdx?_eq_some_iff_getElem] at h
 obtain ⟨hi,e,_⟩:=h
 have e:=of_decide_eq_true e
 exact ⟨by rw [e]; exact List.getElem_mem hi,hi⟩
theorem Ycg (C:List Cho) (hC:C.length ≤ 400):∀ (k n:Nat) (s:MS) (cs:List Ch) (acc:List Int),n+k=C.length→RunOK n s cs→acc.length ≤ n →
  loop Zdc (C,(C.length:Int),(n:Int),s.w cs,acc)=some (match rep (C.drop n) s with | some w=>.inr (acc++w) | none=>.inl 4)
 | 0,n,s,cs,acc,hn,h,ha=>by
  rw [Y87]
  unfold Zdc
  simp only
  rw [bif_f (decide_eq_false (by omega)),List.drop_of_length_le (by omega)]
  show _=some (Sum.inr (acc++[]))
  rw [List.append_nil]
 | k+1,n,s,cs,acc,hn,h,ha=>by
  have hnl:n < C.length:=by omega
  have hg:getAt ((0:Int),(0:Int)) C (toN (n:Int))=C[n]:=getAtL _ hnl
  have hcl:=Y2x h.g.gi
  rw [Y87,List.drop_eq_getElem_cons hnl]
  unfold rep
  have hix:=Y6x s.chs C[n] (by omega)
  cases hfi:s.chs.findIdx? (fun x=>decide (C[n]=x)) with
  | none =>
   rw [hfi] at hix
   have hf:Zdc (C,(C.length:Int),(n:Int),s.w cs,acc)=some (.inr (.inl 4)):=by
    unfold Zdc
    simp only [hg]
    rw [bif_t (decide_eq_true (by omega)),bif_t (Y6r hnl),Y2w h.g.rel h.g.gi h.g.ev.1]
    simp only [Option.bind_some]
    rw [hix]
    rfl
   rw [hf]
  | some i =>
   rw [hfi] at hix
   obtain ⟨hm,hi⟩:=Y54 hfi
   obtain ⟨cs1,g1,f1,f2⟩:=h.step (by omega) hm
   have hf:Zdc (C,(C.length:Int),(n:Int),s.w cs,acc)=some (.inl (C,(C.length:Int),((n+1:Nat):Int),(s.step C[n]).w cs1,acc++[(i:Int)])):=by
    unfold Zdc
    simp only [hg]
    rw [bif_t (decide_eq_true (by omega)),bif_t (Y6r hnl),Y2w h.g.rel h.g.gi h.g.ev.1]
    simp only [Option.bind_some]
    rw [hix]
    simp only [Option.bind_some]
    rw [bif_f (decide_eq_false (by omega)),bif_t (Y5j.2 (by show acc.length+1 ≤ _; omega)),f1]
    simp only [Option.bind_some]
    rw [wrapI (by omega) (by omega)]
    rfl
   rw [hf]
   simp only
   rw [Ycg C hC k (n+1) (s.step C[n]) cs1 (acc++[(i:Int)]) (by omega) g1 (by rw [List.length_append]; show acc.length+1 ≤ _; omega)]
   cases rep (C.drop (n+1)) (s.step C[n]) with
   | none=>rfl
   | some w =>
    show some (Sum.inr ((acc++[(i:Int)])++w))=some (Sum.inr (acc++(i:Int) :: w))
    rw [List.append_assoc]; rfl
theorem Yb2 (l:List Cho) (c:Cho) (hl:l.length ≤ 1000):Z71 (l,c)=some (match l.findIdx? (fun x=>decide (c=x)) with | some i=>(i:Int) | none=>-1):=by
 have hf:=Y88 (f:=Zd2) l (fun x=>decide (c=x)) (fun k=>(l,(l.length:Int),(k:Int),c)) (fun k=>.inl (k:Int)) (.inr ()) (by
   intro k hk
   have hg:getAt ((0:Int),(0:Int)) l (toN (k:Int))=l[k]:=getAtL _ hk
   unfold Zd2
   simp only [hg]
   rw [bif_t (decide_eq_true (by omega)),bif_t (Y6r hk),wrapI (by omega) (by omega)]
   by_cases e:c=l[k]
   ·rw [bif_t (by rw [← e]; simp),if_pos (by simpa using e)]
   ·have:(l[k].1 == c.1 && l[k].2 == c.2)=false:=by
     refine Bool.eq_false_iff.2 fun q=>e ?_
     rw [Bool.and_eq_true] at q
     exact Prod.ext (by simpa using (beq_iff_eq.1 q.1).symm) (by simpa using (beq_iff_eq.1 q.2).symm)
    rw [bif_f this,if_neg (by simpa using e)]; rfl) (by
   unfold Zd2
   simp only
   rw [bif_f (decide_eq_false (by omega))])
 unfold Z71
 simp only
 rw [show loop Zd2 (l,(l.length:Int),0,c)=_ from hf]
 cases l.findIdx? (fun x=>decide (c=x)) <;> rfl
theorem Ydo (C:List Cho) (hC:C.length ≤ 400):∀ (k n:Nat) (s:MS) (cs:List Ch) (acc:List Int),n+k=C.length→RunOK n s cs→acc.length ≤ n →
  loop Zd0 (C,(C.length:Int),(n:Int),s.w cs,acc)=some (match rep (C.drop n) s with | some w=>.inr (acc++w) | none=>.inl false)
 | 0,n,s,cs,acc,hn,h,ha=>by
  rw [Y87]
  unfold Zd0
  simp only
  rw [bif_f (decide_eq_false (by omega)),List.drop_of_length_le (by omega)]
  show _=some (Sum.inr (acc++[]))
  rw [List.append_nil]
 | k+1,n,s,cs,acc,hn,h,ha=>by
  have hnl:n < C.length:=by omega
  have hg:getAt ((0:Int),(0:Int)) C (toN (n:Int))=C[n]:=getAtL _ hnl
  have hcl:=Y2x h.g.gi
  rw [Y87,List.drop_eq_getElem_cons hnl]
  unfold rep
  have hix:=Yb2 s.chs C[n] (by omega)
  cases hfi:s.chs.findIdx? (fun x=>decide (C[n]=x)) with
  | none =>
   rw [hfi] at hix
   have hf:Zd0 (C,(C.length:Int),(n:Int),s.w cs,acc)=some (.inr (.inl false)):=by
    unfold Zd0
    simp only [hg]
    rw [bif_t (decide_eq_true (by omega)),bif_t (Y6r hnl),Ybu h.g.rel h.g.gi]
    simp only [Option.bind_some]
    rw [hix]
    rfl
   rw [hf]
  | some i =>
   rw [hfi] at hix
   obtain ⟨hm,hi⟩:=Y54 hfi
   obtain ⟨_,g1,_,f2⟩:=h.step (by omega) hm
   obtain ⟨cs1,q1,q2⟩:=Ye1 (h.g.good (by omega)) hm
   have g2:RunOK (n+1) (s.step C[n]) cs1:=⟨g1.g.both q1,g1.ss⟩
   have hf:Zd0 (C,(C.length:Int),(n:Int),s.w cs,acc)=some (.inl (C,(C.length:Int),((n+1:Nat):Int),(s.step C[n]).w cs1,acc++[(i:Int)])):=by
    unfold Zd0
    simp only [hg]
    rw [bif_t (decide_eq_true (by omega)),bif_t (Y6r hnl),Ybu h.g.rel h.g.gi]
    simp only [Option.bind_some]
    rw [hix]
    simp only [Option.bind_some]
    rw [bif_f (decide_eq_false (by omega)),q2]
    simp only [Option.bind_some]
    rw [bif_t (Y5j.2 (by show acc.length+1 ≤ _; omega)),wrapI (by omega) (by omega)]
    rfl
   rw [hf]
   simp only
   rw [Ydo C hC k (n+1) (s.step C[n]) cs1 (acc++[(i:Int)]) (by omega) g2 (by rw [List.length_append]; show acc.length+1 ≤ _; omega)]
   cases rep (C.drop (n+1)) (s.step C[n]) with
   | none=>rfl
   | some w =>
    show some (Sum.inr ((acc++[(i:Int)])++w))=some (Sum.inr (acc++(i:Int) :: w))
    rw [List.append_assoc]; rfl
end Go.Proofs.YthdlpkdojipfhaaGreat.VX.VxM_M
set_option linter.unusedVariables false
set_option linter.unusedSimpArgs false
namespace Go.Proofs.YthdlpkdojipfhaaGreat.VX.VxM_M
open Go.Proofs
def repF (p:Pg) (C:List Cho):List Int × Int:=if ¬ rightP p then ([],1) else if 400 < C.length then ([],2) else match rep C (MS.new p) with | some w=>(w,0) | none=>([],4)
theorem Ych (p:Pg) (hs:small p) (C:List Cho):Z8j (p,C)=some (repF p C):=by
 obtain ⟨cs0,h1,h2⟩:=new_x p hs
 unfold Z8j repF
 simp only
 rw [h2]
 simp only [Option.bind_some]
 by_cases hp:rightP p
 case neg =>
  simp only [if_neg hp,if_pos hp]
  rfl
 have hR:=(Ycs p).1 hp
 have g0:RunOK 0 (MS.new p) cs0:=⟨Y9s hR (h1 hR),new_ss hR⟩
 simp only [hp,if_true,not_true_eq_false,if_false]
 rw [bif_f (by rfl)]
 by_cases hc:400 < C.length
 ·simp only [if_pos hc]
  rw [bif_t (decide_eq_true (by omega))]
 ·simp only [if_neg hc]
  have key:=Ycg C (by omega) C.length 0 (MS.new p) cs0 [] (by omega) g0 (Nat.le_refl _)
  rw [bif_f (decide_eq_false (by omega)),show loop Zdc (C,(C.length:Int),0,(MS.new p).w cs0,[])=_ from key,List.drop_zero]
  cases rep C (MS.new p) <;> rfl
theorem Ydp {p:Pg} (hR:RightP p) (C:List Cho) (hc:C.length ≤ 400):Z6z (p,C)=some (match rep C (MS.new p) with | some w=>(w,true) | none=>([],false)):=by
 obtain ⟨cs,g0,_⟩:=Y9t hR
 have g1:RunOK 0 (MS.new p) (p.1.map newC):=⟨g0.g.both (Y9u hR),g0.ss⟩
 have key:=Ydo C hc C.length 0 (MS.new p) (p.1.map newC) [] (by omega) g1 (Nat.le_refl _)
 unfold Z6z
 simp only
 rw [rnew_x p hR]
 simp only [Option.bind_some]
 rw [show loop Zd0 (C,(C.length:Int),0,(MS.new p).w (p.1.map newC),[])=_ from key,List.drop_zero]
 cases rep C (MS.new p) <;> rfl
theorem Ycf:∀ (C:List Cho) (s:MS) (w:List Int),rep C s=some w→w.length=C.length
 | [],s,w,h=>by cases h; rfl
 | c :: l,s,w,h=>by
  unfold rep at h
  split at h
  ·cases h
  ·cases hr:rep l (s.step c) with
   | none=>rw [hr] at h; cases h
   | some w' =>
    rw [hr] at h
    cases h
    show w'.length+1=l.length+1
    rw [Ycf l (s.step c) w' hr]
noncomputable def repB (r1:Pg) (C:List Cho):Option Bool :=
 ((Z8j (r1,C))).bind fun r2 =>
 ((Z47 r1)).bind fun r3 =>
 bif (Bool.not r3) then
  ((Z3s ())).bind fun r4 =>
  bif r4 then
   bif (r2.2 == (1:Int)) then
    some ((((List.length r2.1):Nat):Int) == (0:Int))
   else
    some false
  else
   some false
 else
  bif (decide ((((List.length C):Nat):Int) > (400:Int))) then
   ((Z3s ())).bind fun r4 =>
   bif r4 then
    bif (r2.2 == (2:Int)) then
     some ((((List.length r2.1):Nat):Int) == (0:Int))
    else
     some false
   else
    some false
  else
   ((Z6z (r1,C))).bind fun r4 =>
   bif (Bool.not r4.2) then
    ((Z3s ())).bind fun r5 =>
    bif r5 then
     bif (r2.2 == (4:Int)) then
      some ((((List.length r2.1):Nat):Int) == (0:Int))
     else
      some false
    else
     some false
   else
    ((Z3s ())).bind fun r5 =>
    bif r5 then
     bif (r2.2 == (0:Int)) then
      ((Z3y (r2.1,r4.1))).bind fun r6 =>
      some r6
     else
      some false
    else
     some false
theorem Yce (q:Pg) (hsm:small q) (C:List Cho):repB q C=some true:=by
 unfold repB
 rw [Ych q hsm C]
 simp only [Option.bind_some]
 rw [Ydq q hsm]
 simp only [Option.bind_some]
 unfold repF
 by_cases hq:rightP q
 case neg =>
  simp only [if_pos hq]
  rw [decide_eq_false hq,bif_t (by rfl),Y14]
  rfl
 have hR:=(Ycs q).1 hq
 rw [decide_eq_true hq,bif_f (by rfl)]
 by_cases hc:400 < C.length
 ·simp only [hq,not_true_eq_false,if_false,if_pos hc]
  rw [bif_t (decide_eq_true (by omega)),Y14]
  rfl
 simp only [hq,not_true_eq_false,if_false,if_neg hc]
 rw [bif_f (decide_eq_false (by omega)),Ydp hR C (by omega)]
 simp only [Option.bind_some]
 cases hr:rep C (MS.new q) with
 | none =>
  simp only
  rw [bif_t (by rfl),Y14]
  rfl
 | some w =>
  have hw:=Ycf C (MS.new q) w hr
  simp only
  rw [bif_f (by rfl),Y14]
  simp only [Option.bind_some]
  rw [bif_t (by rfl),bif_t (by rfl),Yde _ (by omega)]
  rfl
theorem runReplays_law (p:Pg) (C:List Cho):F_plaitlaw13_RunReplays (p,C)=some true:=by
 have hCl:(C.take 100).length ≤ 100:=by simp; omega
 have hc2:cut C (toN 0) (toN (Min.min ((C.length:Nat):Int) 100) - toN 0)=C.take 100:=cutm C 100
 unfold F_plaitlaw13_RunReplays
 simp only
 rw [Y4w]
 simp only [Option.bind_some]
 have hsm:=Y4x p
 generalize fewP p=q at *
 by_cases c1:(C.length:Int) > 400
 ·rw [bif_f (by rw [decide_eq_true c1]; rfl)]
  exact Yce q hsm C
 ·rw [bif_t (by rw [decide_eq_false c1]; rfl),bif_t (sub3L.2 ⟨by omega,by omega,by omega⟩),hc2]
  rw [show decide ((C.length:Int) > 400)=decide ((((C.take 100).length:Nat):Int) > 400) by rw [decide_eq_false c1,decide_eq_false (by omega)]]
  exact Yce q hsm (C.take 100)
end Go.Proofs.YthdlpkdojipfhaaGreat.VX.VxM_M

