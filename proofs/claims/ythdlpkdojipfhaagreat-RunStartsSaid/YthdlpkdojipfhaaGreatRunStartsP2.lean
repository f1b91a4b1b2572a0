/- Laid for the law RunStarts. -/
import Derived.Test.YthdlpkdojipfhaaGreatRunStartsP1
set_option linter.unusedVariables false
set_option linter.unusedSimpArgs false
namespace Go.Proofs.YthdlpkdojipfhaaGreat.VX.VxM_M
open Go.Proofs
section
variable {s s':MS} {g:Int}
def StK (s s':MS):Prop:=s'.st=s.st ∨ ((s'.st=3 ∨ s'.st=4)∧s'.gs=s.gs)
theorem Y42 (s:MS) (x:W) (k no:Int) (b:Bool):(s.done x k no b).st=s.st:=by
 unfold MS.done MS.done1
 split
 ·rfl
 ·split <;> rfl
theorem Yao (s:MS) (x:W) (k:Int) (b:Bool):StK s (s.pass x k b):=by
 unfold MS.pass
 split
 ·exact .inl rfl
 ·split
  ·exact .inr ⟨.inl rfl,rfl⟩
  ·left
   rw [Y42]
   split
   ·rfl
   ·rw [Y42]; rfl
theorem Yfh (nx:Nat→MS→MS) (h:∀ k s,(nx k s).st=s.st):∀ m k s,(upto nx k m s).st=s.st
 | 0,k,s=>rfl
 | m+1,k,s=>(Yfh nx h m (k+1) (nx k s)).trans (h k s)
theorem Ydr (s:MS) (k:Int) (l:List W):(s.shutL k l).st=s.st:=by
 have:∀ m j (q:MS × List Int),(upto (MS.shutS k l) j m q).1.st=q.1.st:=by
  intro m
  induction m with
  | zero=>exact fun j q=>rfl
  | succ m ih =>
   intro j q
   refine (ih (j+1) (MS.shutS k l j q)).trans ?_
   unfold MS.shutS
   split
   ·rfl
   ·exact Y42 _ _ _ _ _
 exact this l.length 0 (s,[])
theorem Ya7 (s:MS) (g t:Int) (l:List Cs):(s.offers g t l).st=s.st:=by
 unfold MS.offers
 exact Yfh (fun n (s:MS)=>(s.offer (g,(n:Int),t) (l.getD n (false,0)).2 (l.getD n (false,0)).1).2) (fun k q=>rfl) _ _ _
theorem Ydz (s:MS) (l:List W):(s.skips l).st=s.st:=by
 unfold MS.skips
 exact Yfh (fun k (s:MS)=>s.skip (l.getD k zeroW).1 (l.getD k zeroW).2.2) (fun k q=>rfl) _ _ _
theorem Y12 {P:MS→Prop} (s:MS) (c:Cho) (h0:P (s.on c.1)) (h1:P (s.sendO c.1 (s.instr c.1).2.1)) (h2:P (s.recvO c.1 (s.instr c.1).2.1)) (h3:P (s.shutO c.1 (s.instr c.1).2.1)) (h4:P (s.selO c.1 c.2 (s.instr c.1).2.1)) (h5:P (s.lock c.1 (s.instr c.1).2.1)) (h6:P (s.unlock c.1 (s.instr c.1).2.1)) (h7:P (s.doO c.1 (s.instr c.1).2.1)) (h8:P (s.endO c.1 (s.instr c.1).2.1)) (h9:P (s.beginO c.1 (s.instr c.1).2.1)) (h10:P (s.access 16 c.1 (s.instr c.1).2.1)) (h11:P (s.access 17 c.1 (s.instr c.1).2.1)) (h12:P (s.to c.1 (s.instr c.1).2.1)) (h13:P (s.orElse c.1 (s.instr c.1).2.1)):P (s.act c):=by
 unfold MS.act
 by_cases c0:(s.instr c.1).1=0
 ·rw [if_pos c0]; exact h0
 rw [if_neg c0]
 by_cases c1:(s.instr c.1).1=1
 ·rw [if_pos c1]; exact h1
 rw [if_neg c1]
 by_cases c2:(s.instr c.1).1=2
 ·rw [if_pos c2]; exact h2
 rw [if_neg c2]
 by_cases c3:(s.instr c.1).1=3
 ·rw [if_pos c3]; exact h3
 rw [if_neg c3]
 by_cases c4:(s.instr c.1).1=4
 ·rw [if_pos c4]; exact h4
 rw [if_neg c4]
 by_cases c5:(s.instr c.1).1=5
 ·rw [if_pos c5]; exact h5
 rw [if_neg c5]
 by_cases c6:(s.instr c.1).1=6
 ·rw [if_pos c6]; exact h6
 rw [if_neg c6]
 by_cases c7:(s.instr c.1).1=7
 ·rw [if_pos c7]; exact h7
 rw [if_neg c7]
 by_cases c8:(s.instr c.1).1=8
 ·rw [if_pos c8]; exact h8
 rw [if_neg c8]
 by_cases c9:(s.instr c.1).1=9
 ·rw [if_pos c9]; exact h9
 rw [if_neg c9]
 by_cases c10:(s.instr c.1).1=10
 ·rw [if_pos c10]; exact h10
 rw [if_neg c10]
 by_cases c11:(s.instr c.1).1=11
 ·rw [if_pos c11]; exact h11
 rw [if_neg c11]
 by_cases c12:(s.instr c.1).1=12
 ·rw [if_pos c12]; exact h12
 rw [if_neg c12]
 exact h13
theorem act_st (s:MS) (c:Cho):StK s (s.act c):=by
 refine Y12 (P:=fun q=>StK s q) s c ?_ ?_ ?_ ?_ ?_ ?_ ?_ ?_ ?_ ?_ ?_ ?_ ?_ ?_
 ·exact .inl rfl
 ·exact Yao (s.tell (c.1,2,(s.instr c.1).2.1,0,-1)) _ _ _
 ·exact Yao (s.tell (c.1,4,(s.instr c.1).2.1,0,-1)) _ _ _
 ·unfold MS.shutO
  split
  ·exact .inr ⟨.inl rfl,rfl⟩
  ·left; rw [Ydr]; rfl
 ·unfold MS.selO
  split
  ·exact Yao (s.tell (c.1,8,(s.instr c.1).2.1,0,-1)) _ _ _
  ·split
   ·exact .inl rfl
   ·left
    exact Ya7 _ _ _ _
 ·unfold MS.lock
  split <;> exact .inl rfl
 ·unfold MS.unlock
  split
  ·exact .inr ⟨.inl rfl,rfl⟩
  ·split <;> exact .inl rfl
 ·unfold MS.doO
  split
  ·exact .inl rfl
  split
  ·exact .inl rfl
  split <;> exact .inl rfl
 ·unfold MS.endO
  split
  ·left
   exact Ydz _ _
  ·exact .inr ⟨.inl rfl,rfl⟩
 ·unfold MS.beginO
  split
  ·exact .inr ⟨.inr rfl,rfl⟩
  ·exact .inl rfl
 ·exact .inl rfl
 ·exact .inl rfl
 ·exact .inl rfl
 ·unfold MS.orElse
  split <;> exact .inl rfl
structure SS (s:MS):Prop where
 go:s.st=0→anyS s.gs 0=true
 all:s.st=1→∀ x ∈ s.gs,x.2.2.1=2
 dead:s.st=2→(∀ x ∈ s.gs,x.2.2.1 ≠ 0)∧∃ x ∈ s.gs,x.2.2.1=1
 odd:s.st ≠ 0→s.st ≠ 1→∃ x ∈ s.gs,x.2.2.1 ≠ 2
theorem Y18 (gs:List Gor) (n:Int):anyS gs n=true ↔ ∃ x ∈ gs,x.2.2.1=n:=by
 unfold anyS
 rw [List.any_eq_true]
 constructor
 ·rintro ⟨x,hx,e⟩; exact ⟨x,hx,by simpa using e⟩
 ·rintro ⟨x,hx,e⟩; exact ⟨x,hx,by simpa using e⟩
theorem Ydo (hg:∀ x ∈ s.gs,0 ≤ x.2.2.1∧x.2.2.1 ≤ 2) (h:s.st=0 ∨ ((s.st=3 ∨ s.st=4)∧∃ x ∈ s.gs,x.2.2.1 ≠ 2)):SS s.settle:=by
 unfold MS.settle
 rcases h with h | ⟨h1,h2⟩
 ·by_cases c1:anyS s.gs 0=true
  ·rw [if_pos (.inr c1)]
   exact ⟨fun _=>c1,fun q=>by omega,fun q=>by omega,fun q _=>absurd h q⟩
  ·rw [if_neg (fun q=>q.elim (fun z=>z h) c1)]
   have h0:∀ x ∈ s.gs,x.2.2.1 ≠ 0:=fun x hx e=>c1 ((Y18 _ _).2 ⟨x,hx,e⟩)
   by_cases c2:anyS s.gs 1=true
   ·rw [if_pos c2]
    obtain ⟨x,hx,e⟩:=(Y18 _ _).1 c2
    exact ⟨fun q=>by have:(2:Int)=0:=q; omega,fun q=>by have:(2:Int)=1:=q; omega,fun _=>⟨h0,x,hx,e⟩,fun _ _=>⟨x,hx,by omega⟩⟩
   ·rw [if_neg c2]
    have h1:∀ x ∈ s.gs,x.2.2.1 ≠ 1:=fun x hx e=>c2 ((Y18 _ _).2 ⟨x,hx,e⟩)
    exact ⟨fun q=>by have:(1:Int)=0:=q; omega,fun _ x hx=>by have:=h0 x hx; have:=h1 x hx; have:=hg x hx; omega,fun q=>by have:(1:Int)=2:=q; omega,fun _ q=>absurd rfl q⟩
 ·rw [if_pos (.inl (by omega))]
  exact ⟨fun q=>by omega,fun q=>by omega,fun q=>by omega,fun _ _=>h2⟩
theorem Yen (h:GI s (-1)) {c:Cho} (hc:c ∈ s.chs) (ha:GI (s.clear.act c) (-1)):SS (s.step c):=by
 obtain ⟨h0,r,_,_⟩:=Y2w h hc
 refine Ydo (gi_st ha) ?_
 rcases act_st s.clear c with e | ⟨e1,e2⟩
 ·exact .inl (e.trans h0)
 ·refine .inr ⟨e1,gAt s.gs c.1,by rw [e2]; exact Y66 r.hg,?_⟩
  have:=r.st
  show (s.g c.1).2.2.1 ≠ 2
  omega
theorem new_ss {p:Pg} (hp:RightP p):SS (MS.new p):=by
 have hsz:=hp.sizes
 unfold Ydv at hsz
 simp only [Bool.and_eq_true,decide_eq_true_eq,Y6o] at hsz
 refine Ydo (fun x hx=>?_) (.inl rfl)
 have:x=gTo p (0,0,0,false) 0:=List.mem_singleton.1 hx
 rw [this]
 show 0 ≤ (if (0:Int)=_ then (2:Int) else 0)∧(if (0:Int)=_ then (2:Int) else 0) ≤ 2
 split <;> omega
theorem Y2x (h:SS s):s.chs=[] ↔ s.st ≠ 0:=by
 constructor
 ·intro e q
  obtain ⟨x,hx,e0⟩:=(Y18 _ _).1 (h.go q)
  obtain ⟨k,hk,ek⟩:=List.mem_iff_getElem.1 hx
  unfold MS.chs at e
  rw [if_neg (fun z=>z q)] at e
  have hg:s.g (k:Int)=x:=by
   show s.gs.getD (k:Int).toNat zGor=x
   rw [show (k:Int).toNat=k by omega,Y6a hk,ek]
  have:s.choG (k:Int) ≠ []:=by
   unfold MS.choG
   rw [if_neg (by rw [hg,e0]; simp)]
   split
   ·simp
   ·assumption
  have:=List.flatMap_eq_nil_iff.1 e k (List.mem_range.2 hk)
  contradiction
 ·intro q
  unfold MS.chs
  rw [if_pos q]
end
end Go.Proofs.YthdlpkdojipfhaaGreat.VX.VxM_M
set_option linter.unusedVariables false
set_option linter.unusedSimpArgs false
namespace Go.Proofs.YthdlpkdojipfhaaGreat.VX.VxM_M
open Go.Proofs
def pk (P:List Int) (n:Nat):Nat:=match P with | []=>0 | a :: _=>(a % (n:Int)).toNat
structure Pl where
 s:MS
 L:List Ev
 C:List Cho
 Wd:List Int
def play:Nat→MS→List Int→Pl
 | 0,s,_=>⟨s,[],[],[]⟩
 | k+1,s,P=>if s.st ≠ 0 then ⟨s,[],[],[]⟩ else
  let c:=s.chs.getD (pk P s.chs.length) (0,0)
  let r:=play k (s.step c) P.tail
  ⟨r.s,(s.step c).L++r.L,c :: r.C,(s.chs.length:Int) :: r.Wd⟩
def left:Nat→MS→List Int→List Int
 | 0,_,P=>P
 | k+1,s,P=>if s.st ≠ 0 then P else left k (s.step (s.chs.getD (pk P s.chs.length) (0,0))) P.tail
theorem pk_lt (P:List Int) {n:Nat} (h:0 < n):pk P n < n:=by
 unfold pk
 cases P with
 | nil=>exact h
 | cons a l =>
  have h1:=Int.emod_nonneg a (show (n:Int) ≠ 0 by omega)
  have h2:=Int.emod_lt_of_pos a (show (0:Int) < n by omega)
  simp only
  omega
theorem Yf5 (a:Int) (n:Nat) (h:0 < n):(if Int.tmod a n < 0 then Int.tmod a n+n else Int.tmod a n)=a % (n:Int):=by
 rw [Int.tmod_eq_emod]
 have h1:=Int.emod_nonneg a (show (n:Int) ≠ 0 by omega)
 have h2:=Int.emod_lt_of_pos a (show (0:Int) < n by omega)
 split
 ·split <;> omega
 ·rename_i hc
  rw [not_or] at hc
  have hnd:a % (n:Int) ≠ 0:=fun e=>hc.2 (Int.dvd_of_emod_eq_zero e)
  split <;> omega
theorem next_x (P:List Int) (n:Nat) (h:0 < n) (hn:n ≤ 1000) (hP:P.length ≤ 4294967296):Z5p ((n:Int),P)=some ((pk P n:Int),P.tail):=by
 unfold Z5p
 simp only
 cases P with
 | nil=>rfl
 | cons a l =>
  have ht:=Yf5 a n h
  have hg:getAt (0:Int) (a :: l) (toN 0)=a:=rfl
  have hcut:cut (a :: l) (toN 1) (toN (((a :: l).length:Nat):Int) - toN 1)=l:=by
   unfold cut toN
   simp
  have hl:(a :: l).length=l.length+1:=rfl
  have e1:=Int.emod_nonneg a (show (n:Int) ≠ 0 by omega)
  have e2:=Int.emod_lt_of_pos a (show (0:Int) < n by omega)
  have hb1:Int.tmod a n < n:=Int.tmod_lt_of_pos a (by omega)
  have hb2:-(n:Int) < Int.tmod a n:=by
   have:=Int.lt_tmod_of_pos a (show (0:Int) < n by omega)
   simpa using this
  rw [bif_f (beq_eq_false_iff_ne.2 (by omega)),bif_t (inbL.2 (by omega)),bif_t (bne_iff_ne.2 (by omega)),bif_t (sub3L.2 (by omega)),hg,hcut]
  show (bif decide (Int.tmod a n < 0) then _ else _)=some ((((a % (n:Int)).toNat:Nat):Int),l)
  rw [show (((a % (n:Int)).toNat:Nat):Int)=a % (n:Int) by omega,← ht]
  by_cases c:Int.tmod a n < 0
  ·rw [bif_t (decide_eq_true c),if_pos c,wrapI (by omega) (by omega)]
  ·rw [bif_f (decide_eq_false c),if_neg c]
structure RunOK (n:Nat) (s:MS) (cs:List Ch):Prop where
 g:GoodN n s cs
 ss:SS s
theorem RunOK.step {n:Nat} {s:MS} {cs:List Ch} (h:RunOK n s cs) (hn:n ≤ 1000) {c:Cho} (hc:c ∈ s.chs):∃ cs',RunOK (n+1) (s.step c) cs'∧Z1a (s.w cs,c)=some ((s.step c).w cs',(s.step c).L,0)∧(s.step c).L.length ≤ 70:=by
 obtain ⟨cs',g1,e1⟩:=h.g.step hn hc
 have hb:s.clear.Bd 100:=⟨by show 0+100 ≤ 900000; omega,h.g.ev.1,by show s.ev+100 ≤ 3000000; have:=h.g.ev.2; omega⟩
 exact ⟨cs',⟨g1,Yen h.g.gi hc (act_gi (s:=s.clear) (cs:=cs) h.g.rel h.g.gi.clear hc hb (fun a ha=>by have:=h.g.sent a ha; omega))⟩,e1,Yel h.g hc⟩
theorem RunOK.pick {n:Nat} {s:MS} {cs:List Ch} (h:RunOK n s cs) (h0:s.st=0) (P:List Int):0 < s.chs.length∧s.chs.length ≤ 32∧s.chs.getD (pk P s.chs.length) (0,0) ∈ s.chs:=by
 have hne:s.chs ≠ []:=fun e=>(Y2x h.ss).1 e h0
 have hp:0 < s.chs.length:=List.length_pos_iff.2 hne
 exact ⟨hp,Y2v h.g.gi,Y91 (pk_lt P hp) _⟩
theorem Yb1 (N:Int) (hN:N ≤ 400):∀ (k n:Nat) (s:MS) (cs:List Ch) (P:List Int) (L:List Ev) (C:List Cho) (Wd:List Int),(n:Int)+k=N→RunOK n s cs→P.length ≤ 4294967296→L.length ≤ 1+70 * n→C.length ≤ n→Wd.length ≤ n →
  ∃ cs',RelCs cs' (play k s P).s.cs∧loop Z8y (N,(n:Int),P,0,s.w cs,0,Wd,L,C)=some (left k s P,0,(play k s P).s.w cs',0,Wd++(play k s P).Wd,L++(play k s P).L,C++(play k s P).C)
 | 0,n,s,cs,P,L,C,Wd,hn,h,hP,hL,hC,hWd=>by
  refine ⟨cs,h.g.rel,?_⟩
  rw [Y86]
  unfold Z8y
  simp only
  rw [bif_f (decide_eq_false (by omega))]
  show _=some (P,0,s.w cs,0,Wd++[],L++[],C++[])
  rw [List.append_nil,List.append_nil,List.append_nil]
 | k+1,n,s,cs,P,L,C,Wd,hn,h,hP,hL,hC,hWd=>by
  rw [Y86]
  by_cases h0:s.st=0
  case neg =>
   refine ⟨cs,?_,?_⟩
   ·show RelCs cs (if s.st ≠ 0 then (⟨s,[],[],[]⟩:Pl) else _).s.cs
    rw [if_pos h0]; exact h.g.rel
   ·have e1:play (k+1) s P=⟨s,[],[],[]⟩:=if_pos h0
    have e2:left (k+1) s P=P:=if_pos h0
    rw [e1,e2]
    unfold Z8y
    simp only
    rw [bif_t (decide_eq_true (by omega)),bif_t (bne_iff_ne.2 h0),List.append_nil,List.append_nil,List.append_nil]
  obtain ⟨p1,p2,p3⟩:=h.pick h0 P
  obtain ⟨cs1,g1,f1,f2⟩:=h.step (by omega) p3
  have e1:play (k+1) s P=⟨(play k (s.step (s.chs.getD (pk P s.chs.length) (0,0))) P.tail).s,(s.step (s.chs.getD (pk P s.chs.length) (0,0))).L++(play k (s.step (s.chs.getD (pk P s.chs.length) (0,0))) P.tail).L,s.chs.getD (pk P s.chs.length) (0,0) :: (play k (s.step (s.chs.getD (pk P s.chs.length) (0,0))) P.tail).C,(s.chs.length:Int) :: (play k (s.step (s.chs.getD (pk P s.chs.length) (0,0))) P.tail).Wd⟩:=if_neg (fun q=>q h0)
  have e2:left (k+1) s P=left k (s.step (s.chs.getD (pk P s.chs.length) (0,0))) P.tail:=if_neg (fun q=>q h0)
  rw [e1,e2]
  have hget:getAt ((0:Int),(0:Int)) s.chs (toN ((pk P s.chs.length:Nat):Int))=s.chs.getD (pk P s.chs.length) (0,0):=by rw [Y68]; rfl
  have hpl:=pk_lt P p1
  generalize hc:s.chs.getD (pk P s.chs.length) (0,0)=c at *
  have hf:Z8y (N,(n:Int),P,0,s.w cs,0,Wd,L,C)=some (.inl (N,((n+1:Nat):Int),P.tail,0,(s.step c).w cs1,0,Wd++[(s.chs.length:Int)],L++(s.step c).L,C++[c])):=by
   unfold Z8y
   simp only
   rw [bif_t (decide_eq_true (by omega)),bif_f (show (s.st != 0)=false by rw [h0]; rfl),Y2u h.g.rel h.g.gi h.g.ev.1]
   simp only [Option.bind_some]
   rw [next_x P s.chs.length p1 (by omega) hP]
   simp only [Option.bind_some]
   rw [bif_t (Y6q hpl),hget,f1]
   simp only [Option.bind_some]
   rw [bif_t (Y5h.2 (by omega)),bif_t (Y5h.2 (by show C.length+1 ≤ _; omega)),bif_t (Y5h.2 (by show Wd.length+1 ≤ _; omega)),wrapI (n:=(n:Int)+1) (by omega) (by omega)]
   rfl
  obtain ⟨cs',r1,r2⟩:=Yb1 N hN k (n+1) (s.step c) cs1 P.tail (L++(s.step c).L) (C++[c]) (Wd++[(s.chs.length:Int)]) (by omega) g1 (by rw [List.length_tail]; omega) (by rw [List.length_append]; omega) (by rw [List.length_append]; show C.length+1 ≤ _; omega) (by rw [List.length_append]; show Wd.length+1 ≤ _; omega)
  refine ⟨cs',r1,?_⟩
  rw [hf]
  simp only
  rw [r2,List.append_assoc,List.append_assoc,List.append_assoc]
  rfl
end Go.Proofs.YthdlpkdojipfhaaGreat.VX.VxM_M
set_option linter.unusedVariables false
set_option linter.unusedSimpArgs false
namespace Go.Proofs.YthdlpkdojipfhaaGreat.VX.VxM_M
open Go.Proofs
theorem Yb2 (k:Nat) (s:MS) (P:List Int) (h:s.st ≠ 0):play k s P=⟨s,[],[],[]⟩:=by
 cases k with
 | zero=>rfl
 | succ k=>exact if_pos h
theorem Yay (k:Nat) (s:MS) (P:List Int) (h:s.st=0):play (k+1) s P=⟨(play k (s.step (s.chs.getD (pk P s.chs.length) (0,0))) P.tail).s,(s.step (s.chs.getD (pk P s.chs.length) (0,0))).L++(play k (s.step (s.chs.getD (pk P s.chs.length) (0,0))) P.tail).L,s.chs.getD (pk P s.chs.length) (0,0) :: (play k (s.step (s.chs.getD (pk P s.chs.length) (0,0))) P.tail).C,(s.chs.length:Int) :: (play k (s.step (s.chs.getD (pk P s.chs.length) (0,0))) P.tail).Wd⟩:=if_neg (fun q=>q h)
theorem Yb0:∀ (k n:Nat) (s:MS) (cs:List Ch) (P:List Int),n+k ≤ 1000→RunOK n s cs→(play k s P).L.length ≤ 70 * k∧(play k s P).C.length ≤ k∧(play k s P).Wd.length=(play k s P).C.length
 | 0,n,s,cs,P,_,_=>⟨Nat.le_refl _,Nat.le_refl _,rfl⟩
 | k+1,n,s,cs,P,hn,h=>by
  by_cases h0:s.st=0
  ·obtain ⟨p1,p2,p3⟩:=h.pick h0 P
   obtain ⟨cs1,g1,f1,f2⟩:=h.step (by omega) p3
   have ih:=Yb0 k (n+1) _ cs1 P.tail (by omega) g1
   rw [Yay k s P h0]
   refine ⟨?_,?_,?_⟩
   ·simp only [List.length_append]; omega
   ·show _+1 ≤ _
    omega
   ·show _+1=_+1
    omega
  ·rw [Yb2 _ s P h0]
   exact ⟨Nat.zero_le _,Nat.zero_le _,rfl⟩
theorem Yaz:∀ (m k:Nat) (s:MS) (P:List Int),m ≤ k→∃ l c w,(play k s P).L=(play m s P).L++l∧(play k s P).C=(play m s P).C++c∧(play k s P).Wd=(play m s P).Wd++w∧((play m s P).s.st ≠ 0→play k s P=play m s P)∧(play m s P).C.length=min m (play k s P).C.length
 | 0,k,s,P,_=>⟨(play k s P).L,(play k s P).C,(play k s P).Wd,rfl,rfl,rfl,fun h=>Yb2 k s P h,by show 0=_; omega⟩
 | m+1,k,s,P,hk=>by
  by_cases h0:s.st=0
  ·obtain ⟨k,rfl⟩:∃ j,k=j+1:=⟨k - 1,by omega⟩
   obtain ⟨l,c,w,e1,e2,e3,e4,e5⟩:=Yaz m k (s.step (s.chs.getD (pk P s.chs.length) (0,0))) P.tail (by omega)
   rw [Yay k s P h0,Yay m s P h0]
   refine ⟨l,c,w,?_,?_,?_,fun h=>?_,?_⟩
   ·show _++_=(_++_)++l
    rw [e1,List.append_assoc]
   ·show _ :: _=(_ :: _)++c
    rw [e2]; rfl
   ·show _ :: _=(_ :: _)++w
    rw [e3]; rfl
   ·rw [e4 h]
   ·show _+1=min (m+1) (_+1)
    omega
  ·rw [Yb2 k s P h0,Yb2 (m+1) s P h0]
   exact ⟨[],[],[],rfl,rfl,rfl,fun _=>rfl,by show 0=min _ 0; omega⟩
abbrev RT:=Int × List Ev × List Cho
def endP (r:Pl):Int:=if r.s.st=0 then 5 else r.s.st
def runP (p:Pg) (P:List Int) (n:Int):RT:=(endP (play n.toNat (MS.new p) P),(0,0,0,0,-1) :: (play n.toNat (MS.new p) P).L,(play n.toNat (MS.new p) P).C)
theorem Y32 (l:List Ev) (h:l.length ≤ 4294967296):Z5v l=some l:=by
 unfold Z5v
 cases l with
 | nil =>
  rw [bif_t (by rfl)]
  unfold amb
  rw [bif_t (Y5h.2 (by simp))]
  simp
 | cons a l =>
  rw [bif_f (by rfl),bif_t (Y5h.2 (by simpa using h))]; rfl
theorem Y9r {p:Pg} (hp:RightP p):∃ cs,RunOK 0 (MS.new p) cs∧Z18 p=some ((MS.new p).w cs,[(0,0,0,0,-1)],0):=by
 obtain ⟨cs,h1,h2⟩:=new_x p (Ycc hp)
 rw [if_pos ((Ycb p).2 hp)] at h2
 exact ⟨cs,⟨Y9q hp (h1 hp),new_ss hp⟩,h2⟩
theorem play_x {p:Pg} (hp:RightP p) (P:List Int) (hP:P.length ≤ 4294967296) (n:Int) (hn:1 ≤ n∧n ≤ 400):Z5r (p,n,P)=some (runP p P n,(play n.toNat (MS.new p) P).Wd,left n.toNat (MS.new p) P):=by
 obtain ⟨cs,g0,h2⟩:=Y9r hp
 obtain ⟨cs',r1,r2⟩:=Yb1 n (by omega) n.toNat 0 (MS.new p) cs P [(0,0,0,0,-1)] [] [] (by omega) g0 hP (by show 1 ≤ _; omega) (Nat.le_refl _) (Nat.le_refl _)
 unfold Z5r
 simp only
 rw [h2]
 simp only [Option.bind_some]
 rw [Y32 _ (by show 1 ≤ _; omega)]
 simp only [Option.bind_some]
 rw [show loop Z8y (n,0,P,0,(MS.new p).w cs,0,[],[(0,0,0,0,-1)],[])=_ from r2]
 simp only [Option.bind_some]
 unfold runP endP
 by_cases e:(play n.toNat (MS.new p) P).s.st=0
 ·rw [bif_t (beq_iff_eq.2 e),if_pos e]; rfl
 ·rw [bif_f (beq_eq_false_iff_ne.2 e),if_neg e]; rfl
def runF (p:Pg) (P:List Int) (n:Int):RT × Int:=if ¬ rightP p then ((0,[],[]),1) else if n < 1 ∨ 400 < n then ((0,[],[]),2) else (runP p P n,0)
theorem may_x (p:Pg) (hs:small p) (n:Int):Z5n (p,n)=some (if ¬ rightP p then 1 else if n < 1 ∨ 400 < n then 2 else 0):=by
 unfold Z5n
 simp only
 rw [Yai p hs]
 simp only [Option.bind_some]
 by_cases hp:rightP p
 ·rw [decide_eq_true hp,if_neg (fun q=>q hp),bif_f (by rfl)]
  by_cases h1:n < 1
  ·rw [bif_t (decide_eq_true h1),if_pos (.inl h1)]
  rw [bif_f (decide_eq_false h1)]
  by_cases h2:400 < n
  ·rw [bif_t (decide_eq_true h2),if_pos (.inr h2)]
  ·rw [bif_f (decide_eq_false h2),if_neg (fun q=>q.elim h1 h2)]
 ·rw [decide_eq_false hp,if_pos hp,bif_t (by rfl)]
theorem run_x (p:Pg) (hs:small p) (P:List Int) (hP:P.length ≤ 4294967296) (n:Int):Z5l (p,P,n)=some (runF p P n):=by
 unfold Z5l runF
 simp only
 rw [may_x p hs]
 simp only [Option.bind_some]
 by_cases hp:rightP p
 ·simp only [hp,not_true_eq_false,if_false]
  by_cases h:n < 1 ∨ 400 < n
  ·simp only [if_pos h]; rfl
  ·simp only [if_neg h]
   rw [bif_f (by rfl),play_x ((Ycb p).1 hp) P hP n (by omega)]
   rfl
 ·simp only [if_pos hp]; rfl
theorem Yco {p:Pg} (hp:RightP p) (P:List Int) (n:Int) (hn:n ≤ 400):(runP p P n).2.1.length ≤ 28001∧(runP p P n).2.2.length ≤ 400:=by
 obtain ⟨cs,g0,_⟩:=Y9r hp
 have:=Yb0 n.toNat 0 (MS.new p) cs P (by omega) g0
 refine ⟨?_,?_⟩
 ·show _+1 ≤ _
  omega
 ·show (play n.toNat (MS.new p) P).C.length ≤ _
  omega
theorem Yd0 (r:RT) (h:r.2.1.length ≤ 28001∧r.2.2.length ≤ 400):Z43 (r,r)=some true:=by
 unfold Z43
 simp only
 rw [bif_t (by simp),Y4q _ (by omega)]
 simp only [Option.bind_some]
 rw [bif_t (by rfl),Ycn _ (by omega)]
 rfl
theorem Y14:Z3s ()=some true:=by
 unfold Z3s
 rw [show Z3w ()=some pp from rfl]
 simp only [Option.bind_some]
 rw [run_x pp (Ycc Yb7) [] (by show 0 ≤ _; omega) 9]
 rw [show runF pp [] 9=(runP pp [] 9,0) from rfl]
 simp only [Option.bind_some]
 rfl
theorem Y4w (p:Pg):Z3u p=some (fewP p):=few_x p
end Go.Proofs.YthdlpkdojipfhaaGreat.VX.VxM_M
set_option linter.unusedVariables false
set_option linter.unusedSimpArgs false
namespace Go.Proofs.YthdlpkdojipfhaaGreat.VX.VxM_M
open Go.Proofs
theorem Y6l (x:Int):1 ≤ IntKind.wrap .i64 (1+Int.tmod (IntKind.wrap .i64 (Int.tmod x 100+100)) 100)∧IntKind.wrap .i64 (1+Int.tmod (IntKind.wrap .i64 (Int.tmod x 100+100)) 100) ≤ 100:=by
 have h1:Int.tmod x 100 < 100:=Int.tmod_lt_of_pos _ (by decide)
 have h2:-100 < Int.tmod x 100:=by simpa using Int.lt_tmod_of_pos x (show (0:Int) < 100 by decide)
 rw [wrapI (n:=Int.tmod x 100+100) (by omega) (by omega)]
 have h3:0 ≤ Int.tmod (Int.tmod x 100+100) 100:=Int.tmod_nonneg _ (by omega)
 have h4:Int.tmod (Int.tmod x 100+100) 100 < 100:=Int.tmod_lt_of_pos _ (by decide)
 rw [wrapI (by omega) (by omega)]
 omega
theorem within (y n:Int) (hn:1 ≤ n∧n ≤ 1000):1 ≤ IntKind.wrap .i64 (1+Int.tmod (IntKind.wrap .i64 (Int.tmod y n+n)) n)∧IntKind.wrap .i64 (1+Int.tmod (IntKind.wrap .i64 (Int.tmod y n+n)) n) ≤ n:=by
 have h1:Int.tmod y n < n:=Int.tmod_lt_of_pos _ (by omega)
 have h2:-n < Int.tmod y n:=by simpa using Int.lt_tmod_of_pos y (show (0:Int) < n by omega)
 rw [wrapI (n:=Int.tmod y n+n) (by omega) (by omega)]
 have h3:0 ≤ Int.tmod (Int.tmod y n+n) n:=Int.tmod_nonneg _ (by omega)
 have h4:Int.tmod (Int.tmod y n+n) n < n:=Int.tmod_lt_of_pos _ (by omega)
 rw [wrapI (by omega) (by omega)]
 omega
theorem Y3m {α:Type} (a b:List α):cut (a++b) (toN 0) (toN (a.length:Int) - toN 0)=a:=by
 unfold cut toN
 simp
theorem runStarts_law (p:Pg) (P:List Int) (x y:Int):F_plaitlaw13_RunStarts (p,P,x,y)=some true:=by
 have hPl:(P.take 120).length ≤ 120:=by simp; omega
 have hcv:=cutm P 120
 unfold F_plaitlaw13_RunStarts
 simp only
 rw [Y4w]
 simp only [Option.bind_some]
 have hsm:=Y4x p
 generalize fewP p=q at *
 have hn:=Y6l x
 generalize IntKind.wrap .i64 (1+Int.tmod (IntKind.wrap .i64 (Int.tmod x 100+100)) 100)=n at *
 have hm:=within y n ⟨hn.1,by omega⟩
 generalize IntKind.wrap .i64 (1+Int.tmod (IntKind.wrap .i64 (Int.tmod y n+n)) n)=m at *
 rw [bif_t (sub3L.2 ⟨by omega,by omega,by omega⟩),bif_t (bne_iff_ne.2 (by omega)),bif_t (bne_iff_ne.2 (by omega)),show cut P (toN 0) (toN (Min.min ((P.length:Nat):Int) 120) - toN 0)=P.take 120 from hcv]
 generalize P.take 120=P at *
 rw [run_x q hsm P (by omega),run_x q hsm P (by omega)]
 simp only [Option.bind_some]
 unfold runF
 by_cases hq:rightP q
 case neg =>
  simp only [if_pos hq]
  rw [bif_t (by rfl),Y14]
  rfl
 have hR:=(Ycb q).1 hq
 simp only [hq,not_true_eq_false,if_false,if_neg (show ¬ (n < 1 ∨ 400 < n) by omega),if_neg (show ¬ (m < 1 ∨ 400 < m) by omega)]
 have ln:=Yco hR P n (by omega)
 have lm:=Yco hR P m (by omega)
 obtain ⟨l,c,w,e1,e2,e3,e4,e5⟩:=Yaz m.toNat n.toNat (MS.new q) P (by omega)
 have en:(runP q P n).2.2=(runP q P m).2.2++c:=e2
 have el:(runP q P n).2.1=(runP q P m).2.1++l:=by
  show (0,0,0,0,-1) :: (play n.toNat (MS.new q) P).L=((0,0,0,0,-1) :: (play m.toNat (MS.new q) P).L)++l
  rw [e1]; rfl
 have hC1:(runP q P n).2.2.length=(runP q P m).2.2.length+c.length:=by rw [en,List.length_append]
 have hL1:(runP q P n).2.1.length=(runP q P m).2.1.length+l.length:=by rw [el,List.length_append]
 have hmin:((runP q P m).2.2.length:Int)=Min.min m ((runP q P n).2.2.length:Int):=by
  have:(runP q P m).2.2.length=min m.toNat (runP q P n).2.2.length:=e5
  omega
 rw [bif_f (by rfl),bif_f (by rfl),bif_f (decide_eq_false (by omega)),bif_f (decide_eq_false (by omega)),Y14]
 simp only [Option.bind_some]
 rw [bif_f (by rfl)]
 have hrows:Z41 (cut (runP q P n).2.2 (toN 0) (toN ((runP q P m).2.2.length:Int) - toN 0),(runP q P m).2.2)=some true:=by
  rw [en,Y3m]; exact Ycn _ (by omega)
 have hevs:Z3z (cut (runP q P n).2.1 (toN 0) (toN ((runP q P m).2.1.length:Int) - toN 0),(runP q P m).2.1)=some true:=by
  rw [el,Y3m]; exact Y4q _ (by omega)
 have hs1:sub3 0 ((runP q P m).2.2.length:Int) (runP q P n).2.2.length=true:=sub3L.2 ⟨by omega,by omega,by omega⟩
 have hs2:sub3 0 ((runP q P m).2.1.length:Int) (runP q P n).2.1.length=true:=sub3L.2 ⟨by omega,by omega,by omega⟩
 by_cases h5:(runP q P m).1=5
 ·rw [bif_f (by rw [h5]; rfl),bif_t hs1,hrows]
  simp only [Option.bind_some]
  rw [bif_t (by rfl),bif_t hs2,hevs]
  simp only [Option.bind_some]
  rw [bif_t (by rfl),← hmin,beq_self_eq_true]
 ·have hst:(play m.toNat (MS.new q) P).s.st ≠ 0:=fun e=>h5 (if_pos e)
  have he:=e4 hst
  have hsame:runP q P n=runP q P m:=by unfold runP; rw [he]
  rw [bif_t (bne_iff_ne.2 h5),hsame,Yd0 _ lm]
  simp only [Option.bind_some]
  rw [hsame] at hs1 hs2 hrows hevs hmin
  rw [bif_f (by rfl),bif_t hs1,hrows]
  simp only [Option.bind_some]
  rw [bif_t (by rfl),bif_t hs2,hevs]
  simp only [Option.bind_some]
  rw [bif_t (by rfl),← hmin,beq_self_eq_true]
end Go.Proofs.YthdlpkdojipfhaaGreat.VX.VxM_M

