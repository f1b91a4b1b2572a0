/- Laid for the law RunWidths. -/
import Derived.Test.YthdlpkdojipfhaaGreatRunWidthsP1
set_option linter.unusedVariables false
set_option linter.unusedSimpArgs false
namespace Go.Proofs.YthdlpkdojipfhaaGreat.VX.VxM_M
open Go.Proofs
section
variable {s s':MS} {g:Int}
def StK (s s':MS):Prop:=s'.st=s.st ∨ ((s'.st=3 ∨ s'.st=4)∧s'.gs=s.gs)
theorem Y43 (s:MS) (x:W) (k no:Int) (b:Bool):(s.done x k no b).st=s.st:=by
 unfold MS.done MS.done1
 split
 ·rfl
 ·split <;> rfl
theorem Yas (s:MS) (x:W) (k:Int) (b:Bool):StK s (s.pass x k b):=by
 unfold MS.pass
 split
 ·exact .inl rfl
 ·split
  ·exact .inr ⟨.inl rfl,rfl⟩
  ·left
   rw [Y43]
   split
   ·rfl
   ·rw [Y43]; rfl
theorem Yfr (nx:Nat→MS→MS) (h:∀ k s,(nx k s).st=s.st):∀ m k s,(upto nx k m s).st=s.st
 | 0,k,s=>rfl
 | m+1,k,s=>(Yfr nx h m (k+1) (nx k s)).trans (h k s)
theorem Ye1 (s:MS) (k:Int) (l:List W):(s.shutL k l).st=s.st:=by
 have:∀ m j (q:MS × List Int),(upto (MS.shutS k l) j m q).1.st=q.1.st:=by
  intro m
  induction m with
  | zero=>exact fun j q=>rfl
  | succ m ih =>
   intro j q
   refine (ih (j+1) (MS.shutS k l j q)).trans ?_
   unfold MS.shutS
   split
   ·rfl
   ·exact Y43 _ _ _ _ _
 exact this l.length 0 (s,[])
theorem Yab (s:MS) (g t:Int) (l:List Cs):(s.offers g t l).st=s.st:=by
 unfold MS.offers
 exact Yfr (fun n (s:MS)=>(s.offer (g,(n:Int),t) (l.getD n (false,0)).2 (l.getD n (false,0)).1).2) (fun k q=>rfl) _ _ _
theorem Ye9 (s:MS) (l:List W):(s.skips l).st=s.st:=by
 unfold MS.skips
 exact Yfr (fun k (s:MS)=>s.skip (l.getD k zeroW).1 (l.getD k zeroW).2.2) (fun k q=>rfl) _ _ _
theorem Y12 {P:MS→Prop} (s:MS) (c:Cho) (h0:P (s.on c.1)) (h1:P (s.sendO c.1 (s.instr c.1).2.1)) (h2:P (s.recvO c.1 (s.instr c.1).2.1)) (h3:P (s.shutO c.1 (s.instr c.1).2.1)) (h4:P (s.selO c.1 c.2 (s.instr c.1).2.1)) (h5:P (s.lock c.1 (s.instr c.1).2.1)) (h6:P (s.unlock c.1 (s.instr c.1).2.1)) (h7:P (s.doO c.1 (s.instr c.1).2.1)) (h8:P (s.endO c.1 (s.instr c.1).2.1)) (h9:P (s.beginO c.1 (s.instr c.1).2.1)) (h10:P (s.access 16 c.1 (s.instr c.1).2.1)) (h11:P (s.access 17 c.1 (s.instr c.1).2.1)) (h12:P (s.to c.1 (s.instr c.1).2.1)) (h13:P (s.orElse c.1 (s.instr c.1).2.1)):P (s.act c):=by
 unfold MS.act
 by_cases c0:(s.instr c.1).1=0
 ·rw [if_pos c0]; exact h0
 rw [if_neg c0]
 by_cases c1:(s.instr c.1).1=1
 ·rw [if_pos c1]; exact h1
 rw [if_neg c1]
 by_cases c2:(s.instr c.1).1=2
 ·rw [if_pos c2]; exact h2
 rw [if_neg c2]
 by_cases c3:(s.instr c.1).1=3
 ·rw [if_pos c3]; exact h3
 rw [if_neg c3]
 by_cases c4:(s.instr c.1).1=4
 ·rw [if_pos c4]; exact h4
 rw [if_neg c4]
 by_cases c5:(s.instr c.1).1=5
 ·rw [if_pos c5]; exact h5
 rw [if_neg c5]
 by_cases c6:(s.instr c.1).1=6
 ·rw [if_pos c6]; exact h6
 rw [if_neg c6]
 by_cases c7:(s.instr c.1).1=7
 ·rw [if_pos c7]; exact h7
 rw [if_neg c7]
 by_cases c8:(s.instr c.1).1=8
 ·rw [if_pos c8]; exact h8
 rw [if_neg c8]
 by_cases c9:(s.instr c.1).1=9
 ·rw [if_pos c9]; exact h9
 rw [if_neg c9]
 by_cases c10:(s.instr c.1).1=10
 ·rw [if_pos c10]; exact h10
 rw [if_neg c10]
 by_cases c11:(s.instr c.1).1=11
 ·rw [if_pos c11]; exact h11
 rw [if_neg c11]
 by_cases c12:(s.instr c.1).1=12
 ·rw [if_pos c12]; exact h12
 rw [if_neg c12]
 exact h13
theorem act_st (s:MS) (c:Cho):StK s (s.act c):=by
 refine Y12 (P:=fun q=>StK s q) s c ?_ ?_ ?_ ?_ ?_ ?_ ?_ ?_ ?_ ?_ ?_ ?_ ?_ ?_
 ·exact .inl rfl
 ·exact Yas (s.tell (c.1,2,(s.instr c.1).2.1,0,-1)) _ _ _
 ·exact Yas (s.tell (c.1,4,(s.instr c.1).2.1,0,-1)) _ _ _
 ·unfold MS.shutO
  split
  ·exact .inr ⟨.inl rfl,rfl⟩
  ·left; rw [Ye1]; rfl
 ·unfold MS.selO
  split
  ·exact Yas (s.tell (c.1,8,(s.instr c.1).2.1,0,-1)) _ _ _
  ·split
   ·exact .inl rfl
   ·left
    exact Yab _ _ _ _
 ·unfold MS.lock
  split <;> exact .inl rfl
 ·unfold MS.unlock
  split
  ·exact .inr ⟨.inl rfl,rfl⟩
  ·split <;> exact .inl rfl
 ·unfold MS.doO
  split
  ·exact .inl rfl
  split
  ·exact .inl rfl
  split <;> exact .inl rfl
 ·unfold MS.endO
  split
  ·left
   exact Ye9 _ _
  ·exact .inr ⟨.inl rfl,rfl⟩
 ·unfold MS.beginO
  split
  ·exact .inr ⟨.inr rfl,rfl⟩
  ·exact .inl rfl
 ·exact .inl rfl
 ·exact .inl rfl
 ·exact .inl rfl
 ·unfold MS.orElse
  split <;> exact .inl rfl
structure SS (s:MS):Prop where
 go:s.st=0→anyS s.gs 0=true
 all:s.st=1→∀ x ∈ s.gs,x.2.2.1=2
 dead:s.st=2→(∀ x ∈ s.gs,x.2.2.1 ≠ 0)∧∃ x ∈ s.gs,x.2.2.1=1
 odd:s.st ≠ 0→s.st ≠ 1→∃ x ∈ s.gs,x.2.2.1 ≠ 2
theorem Y18 (gs:List Gor) (n:Int):anyS gs n=true ↔ ∃ x ∈ gs,x.2.2.1=n:=by
 unfold anyS
 rw [List.any_eq_true]
 constructor
 ·rintro ⟨x,hx,e⟩; exact ⟨x,hx,by simpa using e⟩
 ·rintro ⟨x,hx,e⟩; exact ⟨x,hx,by simpa using e⟩
theorem Ydy (hg:∀ x ∈ s.gs,0 ≤ x.2.2.1∧x.2.2.1 ≤ 2) (h:s.st=0 ∨ ((s.st=3 ∨ s.st=4)∧∃ x ∈ s.gs,x.2.2.1 ≠ 2)):SS s.settle:=by
 unfold MS.settle
 rcases h with h | ⟨h1,h2⟩
 ·by_cases c1:anyS s.gs 0=true
  ·rw [if_pos (.inr c1)]
   exact ⟨fun _=>c1,fun q=>by omega,fun q=>by omega,fun q _=>absurd h q⟩
  ·rw [if_neg (fun q=>q.elim (fun z=>z h) c1)]
   have h0:∀ x ∈ s.gs,x.2.2.1 ≠ 0:=fun x hx e=>c1 ((Y18 _ _).2 ⟨x,hx,e⟩)
   by_cases c2:anyS s.gs 1=true
   ·rw [if_pos c2]
    obtain ⟨x,hx,e⟩:=(Y18 _ _).1 c2
    exact ⟨fun q=>by have:(2:Int)=0:=q; omega,fun q=>by have:(2:Int)=1:=q; omega,fun _=>⟨h0,x,hx,e⟩,fun _ _=>⟨x,hx,by omega⟩⟩
   ·rw [if_neg c2]
    have h1:∀ x ∈ s.gs,x.2.2.1 ≠ 1:=fun x hx e=>c2 ((Y18 _ _).2 ⟨x,hx,e⟩)
    exact ⟨fun q=>by have:(1:Int)=0:=q; omega,fun _ x hx=>by have:=h0 x hx; have:=h1 x hx; have:=hg x hx; omega,fun q=>by have:(1:Int)=2:=q; omega,fun _ q=>absurd rfl q⟩
 ·rw [if_pos (.inl (by omega))]
  exact ⟨fun q=>by omega,fun q=>by omega,fun q=>by omega,fun _ _=>h2⟩
theorem Yex (h:GI s (-1)) {c:Cho} (hc:c ∈ s.chs) (ha:GI (s.clear.act c) (-1)):SS (s.step c):=by
 obtain ⟨h0,r,_,_⟩:=Y2x h hc
 refine Ydy (gi_st ha) ?_
 rcases act_st s.clear c with e | ⟨e1,e2⟩
 ·exact .inl (e.trans h0)
 ·refine .inr ⟨e1,gAt s.gs c.1,by rw [e2]; exact Y69 r.hg,?_⟩
  have:=r.st
  show (s.g c.1).2.2.1 ≠ 2
  omega
theorem new_ss {p:Pg} (hp:RightP p):SS (MS.new p):=by
 have hsz:=hp.sizes
 unfold Ye5 at hsz
 simp only [Bool.and_eq_true,decide_eq_true_eq,Y6q] at hsz
 refine Ydy (fun x hx=>?_) (.inl rfl)
 have:x=gTo p (0,0,0,false) 0:=List.mem_singleton.1 hx
 rw [this]
 show 0 ≤ (if (0:Int)=_ then (2:Int) else 0)∧(if (0:Int)=_ then (2:Int) else 0) ≤ 2
 split <;> omega
theorem Y2y (h:SS s):s.chs=[] ↔ s.st ≠ 0:=by
 constructor
 ·intro e q
  obtain ⟨x,hx,e0⟩:=(Y18 _ _).1 (h.go q)
  obtain ⟨k,hk,ek⟩:=List.mem_iff_getElem.1 hx
  unfold MS.chs at e
  rw [if_neg (fun z=>z q)] at e
  have hg:s.g (k:Int)=x:=by
   show s.gs.getD (k:Int).toNat zGor=x
   rw [show (k:Int).toNat=k by omega,Y6d hk,ek]
  have:s.choG (k:Int) ≠ []:=by
   unfold MS.choG
   rw [if_neg (by rw [hg,e0]; simp)]
   split
   ·simp
   ·assumption
  have:=List.flatMap_eq_nil_iff.1 e k (List.mem_range.2 hk)
  contradiction
 ·intro q
  unfold MS.chs
  rw [if_pos q]
end
end Go.Proofs.YthdlpkdojipfhaaGreat.VX.VxM_M
set_option linter.unusedVariables false
set_option linter.unusedSimpArgs false
namespace Go.Proofs.YthdlpkdojipfhaaGreat.VX.VxM_M
open Go.Proofs
def pk (P:List Int) (n:Nat):Nat:=match P with | []=>0 | a :: _=>(a % (n:Int)).toNat
structure Pl where
 s:MS
 L:List Ev
 C:List Cho
 Wd:List Int
def play:Nat→MS→List Int→Pl
 | 0,s,_=>⟨s,[],[],[]⟩
 | k+1,s,P=>if s.st ≠ 0 then ⟨s,[],[],[]⟩ else
  let c:=s.chs.getD (pk P s.chs.length) (0,0)
  let r:=play k (s.step c) P.tail
  ⟨r.s,(s.step c).L++r.L,c :: r.C,(s.chs.length:Int) :: r.Wd⟩
def left:Nat→MS→List Int→List Int
 | 0,_,P=>P
 | k+1,s,P=>if s.st ≠ 0 then P else left k (s.step (s.chs.getD (pk P s.chs.length) (0,0))) P.tail
theorem pk_lt (P:List Int) {n:Nat} (h:0 < n):pk P n < n:=by
 unfold pk
 cases P with
 | nil=>exact h
 | cons a l =>
  have h1:=Int.emod_nonneg a (show (n:Int) ≠ 0 by omega)
  have h2:=Int.emod_lt_of_pos a (show (0:Int) < n by omega)
  simp only
  omega
theorem Yff (a:Int) (n:Nat) (h:0 < n):(if Int.tmod a n < 0 then Int.tmod a n+n else Int.tmod a n)=a % (n:Int):=by
 rw [Int.tmod_eq_emod]
 have h1:=Int.emod_nonneg a (show (n:Int) ≠ 0 by omega)
 have h2:=Int.emod_lt_of_pos a (show (0:Int) < n by omega)
 split
 ·split <;> omega
 ·rename_i hc
  rw [not_or] at hc
  have hnd:a % (n:Int) ≠ 0:=fun e=>hc.2 (Int.dvd_of_emod_eq_zero e)
  split <;> omega
theorem next_x (P:List Int) (n:Nat) (h:0 < n) (hn:n ≤ 1000) (hP:P.length ≤ 4294967296):Z5t ((n:Int),P)=some ((pk P n:Int),P.tail):=by
 unfold Z5t
 simp only
 cases P with
 | nil=>rfl
 | cons a l =>
  have ht:=Yff a n h
  have hg:getAt (0:Int) (a :: l) (toN 0)=a:=rfl
  have hcut:cut (a :: l) (toN 1) (toN (((a :: l).length:Nat):Int) - toN 1)=l:=by
   unfold cut toN
   simp
  have hl:(a :: l).length=l.length+1:=rfl
  have e1:=Int.emod_nonneg a (show (n:Int) ≠ 0 by omega)
  have e2:=Int.emod_lt_of_pos a (show (0:Int) < n by omega)
  have hb1:Int.tmod a n < n:=Int.tmod_lt_of_pos a (by omega)
  have hb2:-(n:Int) < Int.tmod a n:=by
   have:=Int.lt_tmod_of_pos a (show (0:Int) < n by omega)
   simpa using this
  rw [bif_f (beq_eq_false_iff_ne.2 (by omega)),bif_t (inbL.2 (by omega)),bif_t (bne_iff_ne.2 (by omega)),bif_t (sub3L.2 (by omega)),hg,hcut]
  show (bif decide (Int.tmod a n < 0) then _ else _)=some ((((a % (n:Int)).toNat:Nat):Int),l)
  rw [show (((a % (n:Int)).toNat:Nat):Int)=a % (n:Int) by omega,← ht]
  by_cases c:Int.tmod a n < 0
  ·rw [bif_t (decide_eq_true c),if_pos c,wrapI (by omega) (by omega)]
  ·rw [bif_f (decide_eq_false c),if_neg c]
structure RunOK (n:Nat) (s:MS) (cs:List Ch):Prop where
 g:GoodN n s cs
 ss:SS s
theorem RunOK.step {n:Nat} {s:MS} {cs:List Ch} (h:RunOK n s cs) (hn:n ≤ 1000) {c:Cho} (hc:c ∈ s.chs):∃ cs',RunOK (n+1) (s.step c) cs'∧Z1a (s.w cs,c)=some ((s.step c).w cs',(s.step c).L,0)∧(s.step c).L.length ≤ 70:=by
 obtain ⟨cs',g1,e1⟩:=h.g.step hn hc
 have hb:s.clear.Bd 100:=⟨by show 0+100 ≤ 900000; omega,h.g.ev.1,by show s.ev+100 ≤ 3000000; have:=h.g.ev.2; omega⟩
 exact ⟨cs',⟨g1,Yex h.g.gi hc (act_gi (s:=s.clear) (cs:=cs) h.g.rel h.g.gi.clear hc hb (fun a ha=>by have:=h.g.sent a ha; omega))⟩,e1,Yev h.g hc⟩
theorem RunOK.pick {n:Nat} {s:MS} {cs:List Ch} (h:RunOK n s cs) (h0:s.st=0) (P:List Int):0 < s.chs.length∧s.chs.length ≤ 32∧s.chs.getD (pk P s.chs.length) (0,0) ∈ s.chs:=by
 have hne:s.chs ≠ []:=fun e=>(Y2y h.ss).1 e h0
 have hp:0 < s.chs.length:=List.length_pos_iff.2 hne
 exact ⟨hp,Y2w h.g.gi,Y94 (pk_lt P hp) _⟩
theorem Yb5 (N:Int) (hN:N ≤ 400):∀ (k n:Nat) (s:MS) (cs:List Ch) (P:List Int) (L:List Ev) (C:List Cho) (Wd:List Int),(n:Int)+k=N→RunOK n s cs→P.length ≤ 4294967296→L.length ≤ 1+70 * n→C.length ≤ n→Wd.length ≤ n →
  ∃ cs',RelCs cs' (play k s P).s.cs∧loop Z94 (N,(n:Int),P,0,s.w cs,0,Wd,L,C)=some (left k s P,0,(play k s P).s.w cs',0,Wd++(play k s P).Wd,L++(play k s P).L,C++(play k s P).C)
 | 0,n,s,cs,P,L,C,Wd,hn,h,hP,hL,hC,hWd=>by
  refine ⟨cs,h.g.rel,?_⟩
  rw [Y88]
  unfold Z94
  simp only
  rw [bif_f (decide_eq_false (by omega))]
  show _=some (P,0,s.w cs,0,Wd++[],L++[],C++[])
  rw [List.append_nil,List.append_nil,List.append_nil]
 | k+1,n,s,cs,P,L,C,Wd,hn,h,hP,hL,hC,hWd=>by
  rw [Y88]
  by_cases h0:s.st=0
  case neg =>
   refine ⟨cs,?_,?_⟩
   ·show RelCs cs (if s.st ≠ 0 then (⟨s,[],[],[]⟩:Pl) else _).s.cs
    rw [if_pos h0]; exact h.g.rel
   ·have e1:play (k+1) s P=⟨s,[],[],[]⟩:=if_pos h0
    have e2:left (k+1) s P=P:=if_pos h0
    rw [e1,e2]
    unfold Z94
    simp only
    rw [bif_t (decide_eq_true (by omega)),bif_t (bne_iff_ne.2 h0),List.append_nil,List.append_nil,List.append_nil]
  obtain ⟨p1,p2,p3⟩:=h.pick h0 P
  obtain ⟨cs1,g1,f1,f2⟩:=h.step (by omega) p3
  have e1:play (k+1) s P=⟨(play k (s.step (s.chs.getD (pk P s.chs.length) (0,0))) P.tail).s,(s.step (s.chs.getD (pk P s.chs.length) (0,0))).L++(play k (s.step (s.chs.getD (pk P s.chs.length) (0,0))) P.tail).L,s.chs.getD (pk P s.chs.length) (0,0) :: (play k (s.step (s.chs.getD (pk P s.chs.length) (0,0))) P.tail).C,(s.chs.length:Int) :: (play k (s.step (s.chs.getD (pk P s.chs.length) (0,0))) P.tail).Wd⟩:=if_neg (fun q=>q h0)
  have e2:left (k+1) s P=left k (s.step (s.chs.getD (pk P s.chs.length) (0,0))) P.tail:=if_neg (fun q=>q h0)
  rw [e1,e2]
  have hget:getAt ((0:Int),(0:Int)) s.chs (toN ((pk P s.chs.length:Nat):Int))=s.chs.getD (pk P s.chs.length) (0,0):=by rw [Y6b]; rfl
  have hpl:=pk_lt P p1
  generalize hc:s.chs.getD (pk P s.chs.length) (0,0)=c at *
  have hf:Z94 (N,(n:Int),P,0,s.w cs,0,Wd,L,C)=some (.inl (N,((n+1:Nat):Int),P.tail,0,(s.step c).w cs1,0,Wd++[(s.chs.length:Int)],L++(s.step c).L,C++[c])):=by
   unfold Z94
   simp only
   rw [bif_t (decide_eq_true (by omega)),bif_f (show (s.st != 0)=false by rw [h0]; rfl),Y2v h.g.rel h.g.gi h.g.ev.1]
   simp only [Option.bind_some]
   rw [next_x P s.chs.length p1 (by omega) hP]
   simp only [Option.bind_some]
   rw [bif_t (Y6s hpl),hget,f1]
   simp only [Option.bind_some]
   rw [bif_t (Y5k.2 (by omega)),bif_t (Y5k.2 (by show C.length+1 ≤ _; omega)),bif_t (Y5k.2 (by show Wd.length+1 ≤ _; omega)),wrapI (n:=(n:Int)+1) (by omega) (by omega)]
   rfl
  obtain ⟨cs',r1,r2⟩:=Yb5 N hN k (n+1) (s.step c) cs1 P.tail (L++(s.step c).L) (C++[c]) (Wd++[(s.chs.length:Int)]) (by omega) g1 (by rw [List.length_tail]; omega) (by rw [List.length_append]; omega) (by rw [List.length_append]; show C.length+1 ≤ _; omega) (by rw [List.length_append]; show Wd.length+1 ≤ _; omega)
  refine ⟨cs',r1,?_⟩
  rw [hf]
  simp only
  rw [r2,List.append_assoc,List.append_assoc,List.append_assoc]
  rfl
end Go.Proofs.YthdlpkdojipfhaaGreat.VX.VxM_M
set_option linter.unusedVariables false
set_option linter.unusedSimpArgs false
namespace Go.Proofs.YthdlpkdojipfhaaGreat.VX.VxM_M
open Go.Proofs
theorem Yb7 (k:Nat) (s:MS) (P:List Int) (h:s.st ≠ 0):play k s P=⟨s,[],[],[]⟩:=by
 cases k with
 | zero=>rfl
 | succ k=>exact if_pos h
theorem Yb3 (k:Nat) (s:MS) (P:List Int) (h:s.st=0):play (k+1) s P=⟨(play k (s.step (s.chs.getD (pk P s.chs.length) (0,0))) P.tail).s,(s.step (s.chs.getD (pk P s.chs.length) (0,0))).L++(play k (s.step (s.chs.getD (pk P s.chs.length) (0,0))) P.tail).L,s.chs.getD (pk P s.chs.length) (0,0) :: (play k (s.step (s.chs.getD (pk P s.chs.length) (0,0))) P.tail).C,(s.chs.length:Int) :: (play k (s.step (s.chs.getD (pk P s.chs.length) (0,0))) P.tail).Wd⟩:=if_neg (fun q=>q h)
theorem Yb4:∀ (k n:Nat) (s:MS) (cs:List Ch) (P:List Int),n+k ≤ 1000→RunOK n s cs→(play k s P).L.length ≤ 70 * k∧(play k s P).C.length ≤ k∧(play k s P).Wd.length=(play k s P).C.length
 | 0,n,s,cs,P,_,_=>⟨Nat.le_refl _,Nat.le_refl _,rfl⟩
 | k+1,n,s,cs,P,hn,h=>by
  by_cases h0:s.st=0
  ·obtain ⟨p1,p2,p3⟩:=h.pick h0 P
   obtain ⟨cs1,g1,f1,f2⟩:=h.step (by omega) p3
   have ih:=Yb4 k (n+1) _ cs1 P.tail (by omega) g1
   rw [Yb3 k s P h0]
   refine ⟨?_,?_,?_⟩
   ·simp only [List.length_append]; omega
   ·show _+1 ≤ _
    omega
   ·show _+1=_+1
    omega
  ·rw [Yb7 _ s P h0]
   exact ⟨Nat.zero_le _,Nat.zero_le _,rfl⟩
abbrev RT:=Int × List Ev × List Cho
def endP (r:Pl):Int:=if r.s.st=0 then 5 else r.s.st
def runP (p:Pg) (P:List Int) (n:Int):RT:=(endP (play n.toNat (MS.new p) P),(0,0,0,0,-1) :: (play n.toNat (MS.new p) P).L,(play n.toNat (MS.new p) P).C)
theorem Y34 (l:List Ev) (h:l.length ≤ 4294967296):Z5z l=some l:=by
 unfold Z5z
 cases l with
 | nil =>
  rw [bif_t (by rfl)]
  unfold amb
  rw [bif_t (Y5k.2 (by simp))]
  simp
 | cons a l =>
  rw [bif_f (by rfl),bif_t (Y5k.2 (by simpa using h))]; rfl
theorem Y9u {p:Pg} (hp:RightP p):∃ cs,RunOK 0 (MS.new p) cs∧Z18 p=some ((MS.new p).w cs,[(0,0,0,0,-1)],0):=by
 obtain ⟨cs,h1,h2⟩:=new_x p (Ycj hp)
 rw [if_pos ((Yci p).2 hp)] at h2
 exact ⟨cs,⟨Y9t hp (h1 hp),new_ss hp⟩,h2⟩
theorem play_x {p:Pg} (hp:RightP p) (P:List Int) (hP:P.length ≤ 4294967296) (n:Int) (hn:1 ≤ n∧n ≤ 400):Z5v (p,n,P)=some (runP p P n,(play n.toNat (MS.new p) P).Wd,left n.toNat (MS.new p) P):=by
 obtain ⟨cs,g0,h2⟩:=Y9u hp
 obtain ⟨cs',r1,r2⟩:=Yb5 n (by omega) n.toNat 0 (MS.new p) cs P [(0,0,0,0,-1)] [] [] (by omega) g0 hP (by show 1 ≤ _; omega) (Nat.le_refl _) (Nat.le_refl _)
 unfold Z5v
 simp only
 rw [h2]
 simp only [Option.bind_some]
 rw [Y34 _ (by show 1 ≤ _; omega)]
 simp only [Option.bind_some]
 rw [show loop Z94 (n,0,P,0,(MS.new p).w cs,0,[],[(0,0,0,0,-1)],[])=_ from r2]
 simp only [Option.bind_some]
 unfold runP endP
 by_cases e:(play n.toNat (MS.new p) P).s.st=0
 ·rw [bif_t (beq_iff_eq.2 e),if_pos e]; rfl
 ·rw [bif_f (beq_eq_false_iff_ne.2 e),if_neg e]; rfl
def runF (p:Pg) (P:List Int) (n:Int):RT × Int:=if ¬ rightP p then ((0,[],[]),1) else if n < 1 ∨ 400 < n then ((0,[],[]),2) else (runP p P n,0)
theorem may_x (p:Pg) (hs:small p) (n:Int):Z5r (p,n)=some (if ¬ rightP p then 1 else if n < 1 ∨ 400 < n then 2 else 0):=by
 unfold Z5r
 simp only
 rw [Yam p hs]
 simp only [Option.bind_some]
 by_cases hp:rightP p
 ·rw [decide_eq_true hp,if_neg (fun q=>q hp),bif_f (by rfl)]
  by_cases h1:n < 1
  ·rw [bif_t (decide_eq_true h1),if_pos (.inl h1)]
  rw [bif_f (decide_eq_false h1)]
  by_cases h2:400 < n
  ·rw [bif_t (decide_eq_true h2),if_pos (.inr h2)]
  ·rw [bif_f (decide_eq_false h2),if_neg (fun q=>q.elim h1 h2)]
 ·rw [decide_eq_false hp,if_pos hp,bif_t (by rfl)]
theorem run_x (p:Pg) (hs:small p) (P:List Int) (hP:P.length ≤ 4294967296) (n:Int):Z5n (p,P,n)=some (runF p P n):=by
 unfold Z5n runF
 simp only
 rw [may_x p hs]
 simp only [Option.bind_some]
 by_cases hp:rightP p
 ·simp only [hp,not_true_eq_false,if_false]
  by_cases h:n < 1 ∨ 400 < n
  ·simp only [if_pos h]; rfl
  ·simp only [if_neg h]
   rw [bif_f (by rfl),play_x ((Yci p).1 hp) P hP n (by omega)]
   rfl
 ·simp only [if_pos hp]; rfl
theorem Yg1 (p:Pg) (hs:small p) (P:List Int) (hP:P.length ≤ 4294967296) (n:Int):Z5p (p,P,n)=some (if ¬ rightP p then ([],1) else if n < 1 ∨ 400 < n then ([],2) else ((play n.toNat (MS.new p) P).Wd,0)):=by
 unfold Z5p
 simp only
 rw [may_x p hs]
 simp only [Option.bind_some]
 by_cases hp:rightP p
 ·simp only [hp,not_true_eq_false,if_false]
  by_cases h:n < 1 ∨ 400 < n
  ·simp only [if_pos h]; rfl
  ·simp only [if_neg h]
   rw [bif_f (by rfl),play_x ((Yci p).1 hp) P hP n (by omega)]
   rfl
 ·simp only [if_pos hp]; rfl
theorem Ycw {p:Pg} (hp:RightP p) (P:List Int) (n:Int) (hn:n ≤ 400):(runP p P n).2.1.length ≤ 28001∧(runP p P n).2.2.length ≤ 400:=by
 obtain ⟨cs,g0,_⟩:=Y9u hp
 have:=Yb4 n.toNat 0 (MS.new p) cs P (by omega) g0
 refine ⟨?_,?_⟩
 ·show _+1 ≤ _
  omega
 ·show (play n.toNat (MS.new p) P).C.length ≤ _
  omega
theorem Y14:Z3s ()=some true:=by
 unfold Z3s
 rw [show Z3w ()=some pp from rfl]
 simp only [Option.bind_some]
 rw [run_x pp (Ycj Ybc) [] (by show 0 ≤ _; omega) 9]
 rw [show runF pp [] 9=(runP pp [] 9,0) from rfl]
 simp only [Option.bind_some]
 rfl
theorem Y4x (p:Pg):Z3u p=some (fewP p):=few_x p
end Go.Proofs.YthdlpkdojipfhaaGreat.VX.VxM_M
set_option linter.unusedVariables false
set_option linter.unusedSimpArgs false
namespace Go.Proofs.YthdlpkdojipfhaaGreat.VX.VxM_M
open Go.Proofs
end Go.Proofs.YthdlpkdojipfhaaGreat.VX.VxM_M
set_option linter.unusedVariables false
set_option linter.unusedSimpArgs false
namespace Go.Proofs.YthdlpkdojipfhaaGreat.VX.VxM_M
open Go.Proofs
end Go.Proofs.YthdlpkdojipfhaaGreat.VX.VxM_M
set_option linter.unusedVariables false
set_option linter.unusedSimpArgs false
namespace Go.Proofs.YthdlpkdojipfhaaGreat.VX.VxM_M
open Go.Proofs
end Go.Proofs.YthdlpkdojipfhaaGreat.VX.VxM_M
set_option linter.unusedVariables false
set_option linter.unusedSimpArgs false
namespace Go.Proofs.YthdlpkdojipfhaaGreat.VX.VxM_M
open Go.Proofs
def rep:List Cho→MS→Option (List Int)
 | [],_=>some []
 | c :: l,s=>match s.chs.findIdx? (fun x=>decide (c=x)) with
  | none=>none
  | some i=>(rep l (s.step c)).map fun w=>(i:Int) :: w
theorem Y55 {l:List Cho} {c:Cho} {i:Nat} (h:l.findIdx? (fun x=>decide (c=x))=some i):c ∈ l∧i < l.length:=by
 rw [List.findIdx?_eq_some_iff_getElem] at h
 obtain ⟨hi,e,_⟩:=h
 have e:=of_decide_eq_true e
 exact ⟨by rw [e]; exact List.getElem_mem hi,hi⟩
theorem Yc8 (C:List Cho) (hC:C.length ≤ 400):∀ (k n:Nat) (s:MS) (cs:List Ch) (acc:List Int),n+k=C.length→RunOK n s cs→acc.length ≤ n →
  loop Z92 (C,(C.length:Int),(n:Int),s.w cs,acc)=some (match rep (C.drop n) s with | some w=>.inr (acc++w) | none=>.inl 4)
 | 0,n,s,cs,acc,hn,h,ha=>by
  rw [Y88]
  unfold Z92
  simp only
  rw [bif_f (decide_eq_false (by omega)),List.drop_of_length_le (by omega)]
  show _=some (Sum.inr (acc++[]))
  rw [List.append_nil]
 | k+1,n,s,cs,acc,hn,h,ha=>by
  have hnl:n < C.length:=by omega
  have hg:getAt ((0:Int),(0:Int)) C (toN (n:Int))=C[n]:=getAtL _ hnl
  have hcl:=Y2w h.g.gi
  rw [Y88,List.drop_eq_getElem_cons hnl]
  unfold rep
  have hix:=Y6y s.chs C[n] (by omega)
  cases hfi:s.chs.findIdx? (fun x=>decide (C[n]=x)) with
  | none =>
   rw [hfi] at hix
   have hf:Z92 (C,(C.length:Int),(n:Int),s.w cs,acc)=some (.inr (.inl 4)):=by
    unfold Z92
    simp only [hg]
    rw [bif_t (decide_eq_true (by omega)),bif_t (Y6s hnl),Y2v h.g.rel h.g.gi h.g.ev.1]
    simp only [Option.bind_some]
    rw [hix]
    rfl
   rw [hf]
  | some i =>
   rw [hfi] at hix
   obtain ⟨hm,hi⟩:=Y55 hfi
   obtain ⟨cs1,g1,f1,f2⟩:=h.step (by omega) hm
   have hf:Z92 (C,(C.length:Int),(n:Int),s.w cs,acc)=some (.inl (C,(C.length:Int),((n+1:Nat):Int),(s.step C[n]).w cs1,acc++[(i:Int)])):=by
    unfold Z92
    simp only [hg]
    rw [bif_t (decide_eq_true (by omega)),bif_t (Y6s hnl),Y2v h.g.rel h.g.gi h.g.ev.1]
    simp only [Option.bind_some]
    rw [hix]
    simp only [Option.bind_some]
    rw [bif_f (decide_eq_false (by omega)),bif_t (Y5k.2 (by show acc.length+1 ≤ _; omega)),f1]
    simp only [Option.bind_some]
    rw [wrapI (by omega) (by omega)]
    rfl
   rw [hf]
   simp only
   rw [Yc8 C hC k (n+1) (s.step C[n]) cs1 (acc++[(i:Int)]) (by omega) g1 (by rw [List.length_append]; show acc.length+1 ≤ _; omega)]
   cases rep (C.drop (n+1)) (s.step C[n]) with
   | none=>rfl
   | some w =>
    show some (Sum.inr ((acc++[(i:Int)])++w))=some (Sum.inr (acc++(i:Int) :: w))
    rw [List.append_assoc]; rfl
end Go.Proofs.YthdlpkdojipfhaaGreat.VX.VxM_M
set_option linter.unusedVariables false
set_option linter.unusedSimpArgs false
namespace Go.Proofs.YthdlpkdojipfhaaGreat.VX.VxM_M
open Go.Proofs
def repF (p:Pg) (C:List Cho):List Int × Int:=if ¬ rightP p then ([],1) else if 400 < C.length then ([],2) else match rep C (MS.new p) with | some w=>(w,0) | none=>([],4)
theorem Yc9 (p:Pg) (hs:small p) (C:List Cho):Z5l (p,C)=some (repF p C):=by
 obtain ⟨cs0,h1,h2⟩:=new_x p hs
 unfold Z5l repF
 simp only
 rw [h2]
 simp only [Option.bind_some]
 by_cases hp:rightP p
 case neg =>
  simp only [if_neg hp,if_pos hp]
  rfl
 have hR:=(Yci p).1 hp
 have g0:RunOK 0 (MS.new p) cs0:=⟨Y9t hR (h1 hR),new_ss hR⟩
 simp only [hp,if_true,not_true_eq_false,if_false]
 rw [bif_f (by rfl)]
 by_cases hc:400 < C.length
 ·simp only [if_pos hc]
  rw [bif_t (decide_eq_true (by omega))]
 ·simp only [if_neg hc]
  have key:=Yc8 C (by omega) C.length 0 (MS.new p) cs0 [] (by omega) g0 (Nat.le_refl _)
  rw [bif_f (decide_eq_false (by omega)),show loop Z92 (C,(C.length:Int),0,(MS.new p).w cs0,[])=_ from key,List.drop_zero]
  cases rep C (MS.new p) <;> rfl
end Go.Proofs.YthdlpkdojipfhaaGreat.VX.VxM_M
set_option linter.unusedVariables false
set_option linter.unusedSimpArgs false
namespace Go.Proofs.YthdlpkdojipfhaaGreat.VX.VxM_M
open Go.Proofs
theorem Y56 {l:List Cho} {c:Cho} (h:c ∈ l):∃ i,l.findIdx? (fun x=>decide (c=x))=some i∧i < l.length∧l.getD i (0,0)=c:=by
 cases hf:l.findIdx? (fun x=>decide (c=x)) with
 | none =>
  rw [List.findIdx?_eq_none_iff] at hf
  have:=hf c h
  simp at this
 | some i =>
  have hf':=hf
  rw [List.findIdx?_eq_some_iff_getElem] at hf'
  obtain ⟨hi,e,_⟩:=hf'
  exact ⟨i,rfl,hi,by rw [Y6d hi]; exact (of_decide_eq_true e).symm⟩
theorem Yb6:∀ (k n:Nat) (s:MS) (cs:List Ch) (P:List Int),n+k ≤ 1000→RunOK n s cs→∃ w,rep (play k s P).C s=some w∧w.length=(play k s P).C.length ∧
  (∀ i,i < w.length→0 ≤ w.getD i 0∧w.getD i 0 < (play k s P).Wd.getD i 0∧(play k s P).Wd.getD i 0 ≤ 32) ∧
  ∀ P':List Int,w.length ≤ P'.length→(∀ i,i < w.length→P'.getD i 0 % (play k s P).Wd.getD i 0=w.getD i 0)→play k s P'=play k s P
 | 0,n,s,cs,P,hn,h=>⟨[],rfl,rfl,fun i hi=>absurd hi (Nat.not_lt_zero _),fun _ _ _=>rfl⟩
 | k+1,n,s,cs,P,hn,h=>by
  by_cases h0:s.st=0
  case neg =>
   rw [Yb7 _ s P h0]
   exact ⟨[],rfl,rfl,fun i hi=>absurd hi (Nat.not_lt_zero _),fun P' _ _=>Yb7 _ s P' h0⟩
  obtain ⟨p1,p2,p3⟩:=h.pick h0 P
  obtain ⟨cs1,g1,f1,f2⟩:=h.step (by omega) p3
  obtain ⟨i,i1,i2,i3⟩:=Y56 p3
  obtain ⟨w,w1,w2,w3,w4⟩:=Yb6 k (n+1) _ cs1 P.tail (by omega) g1
  rw [Yb3 k s P h0]
  refine ⟨(i:Int) :: w,?_,?_,fun j hj=>?_,fun P' hl hp=>?_⟩
  ·show rep (_ :: _) s=_
   unfold rep
   rw [i1]
   simp only
   rw [w1]
   rfl
  ·show w.length+1=_+1
   rw [w2]
  ·cases j with
   | zero =>
    show 0 ≤ (i:Int)∧(i:Int) < (s.chs.length:Int)∧(s.chs.length:Int) ≤ 32
    omega
   | succ j =>
    have hj:j+1 < w.length+1:=hj
    exact w3 j (by omega)
  ·cases P' with
   | nil=>have:w.length+1 ≤ 0:=hl; omega
   | cons a P' =>
    have ha:a % (s.chs.length:Int)=(i:Int):=hp 0 (by show 0 < w.length+1; omega)
    have hpk:pk (a :: P') s.chs.length=i:=by
     show (a % (s.chs.length:Int)).toNat=i
     rw [ha]; omega
    rw [Yb3 k s (a :: P') h0,hpk,i3]
    rw [show play k (s.step (s.chs.getD (pk P s.chs.length) (0,0))) (a :: P').tail=_ from w4 P' (by have:w.length+1 ≤ P'.length+1:=hl; omega) (fun j hj=>hp (j+1) (by show j+1 < w.length+1; omega))]
end Go.Proofs.YthdlpkdojipfhaaGreat.VX.VxM_M
set_option linter.unusedVariables false
set_option linter.unusedSimpArgs false
namespace Go.Proofs.YthdlpkdojipfhaaGreat.VX.VxM_M
open Go.Proofs
end Go.Proofs.YthdlpkdojipfhaaGreat.VX.VxM_M
set_option linter.unusedVariables false
set_option linter.unusedSimpArgs false
namespace Go.Proofs.YthdlpkdojipfhaaGreat.VX.VxM_M
open Go.Proofs
theorem Y8d {X Y α:Type} [DecidableEq α] {f:X→Option (X ⊕ Y)} (l m:List α) (hl:l.length=m.length) (st:Nat→X) (no yes:Y)
  (h1:∀ k (h:k < l.length) (h':k < m.length),f (st k)=if l[k]=m[k] then some (.inl (st (k+1))) else some (.inr no)) (h2:f (st l.length)=some (.inr yes)) :
  loop f (st 0)=some (if l=m then yes else no):=by
 have:∀ d k,l.length - k=d→k ≤ l.length→loop f (st k)=some (if l.drop k=m.drop k then yes else no):=by
  intro d
  induction d with
  | zero =>
   intro k h hk
   obtain rfl:k=l.length:=by omega
   rw [Y88,h2,List.drop_length,hl,List.drop_length,if_pos rfl]
  | succ d ih =>
   intro k h hk
   have a:k < l.length:=by omega
   have b:k < m.length:=by omega
   rw [Y88,h1 k a b,List.drop_eq_getElem_cons a,List.drop_eq_getElem_cons b]
   by_cases e:l[k]=m[k]
   ·rw [if_pos e]
    show loop f (st (k+1))=_
    rw [ih (k+1) (by omega) (by omega),e]
    by_cases q:l.drop (k+1)=m.drop (k+1)
    ·rw [if_pos q,if_pos (by rw [q])]
    ·rw [if_neg q,if_neg (fun z=>q (List.cons.inj z).2)]
   ·rw [if_neg e,if_neg (fun z=>e (List.cons.inj z).1)]
 have h:=this _ 0 rfl (Nat.zero_le _)
 rw [List.drop_zero,List.drop_zero] at h
 exact h
theorem Ycv (l m:List Cho) (hl:l.length ≤ 4294967296) (hm:m.length ≤ 4294967296):Z41 (l,m)=some (decide (l=m)):=by
 unfold Z41
 simp only
 by_cases hn:l.length=m.length
 ·have key:=Y8d (f:=Z8s) l m hn (fun k=>(l,m,(l.length:Int),(k:Int))) (.inl false) (.inr ()) (fun k h h'=>by
   have z1:getAt ((0:Int),(0:Int)) l (toN (k:Int))=l[k]:=getAtL _ h
   have z2:getAt ((0:Int),(0:Int)) m (toN (k:Int))=m[k]:=getAtL _ h'
   unfold Z8s
   simp only [z1,z2]
   rw [bif_t (decide_eq_true (by omega)),bif_t (Y6s h),bif_t (Y6s h')]
   by_cases e:l[k]=m[k]
   ·rw [if_pos e,e,bif_f (by simp),wrapI (by omega) (by omega)]; rfl
   ·rw [if_neg e,bif_t ?_]
    rw [Bool.not_eq_true',Bool.and_eq_false_iff]
    by_cases e1:l[k].1=m[k].1
    ·exact .inr (beq_eq_false_iff_ne.2 (fun e2=>e (Prod.ext e1 e2)))
    ·exact .inl (beq_eq_false_iff_ne.2 e1)) (by
   unfold Z8s
   simp only
   rw [bif_f (decide_eq_false (by omega))])
  rw [bif_f (by rw [hn]; simp),show loop Z8s (l,m,(l.length:Int),0)=_ from key]
  simp only [Option.bind_some]
  by_cases e:l=m
  ·rw [if_pos e,decide_eq_true e]
  ·rw [if_neg e,decide_eq_false e]
 ·rw [bif_t (bne_iff_ne.2 (by omega)),decide_eq_false (fun e=>hn (by rw [e]))]
theorem evne (a b:Ev):(Bool.not ((a.1 == b.1) && ((a.2.1 == b.2.1) && ((a.2.2.1 == b.2.2.1) && ((a.2.2.2.1 == b.2.2.2.1) && (a.2.2.2.2 == b.2.2.2.2))))))=decide (¬ a=b):=by
 obtain ⟨a1,a2,a3,a4,a5⟩:=a
 obtain ⟨b1,b2,b3,b4,b5⟩:=b
 by_cases e:((a1,a2,a3,a4,a5):Ev)=(b1,b2,b3,b4,b5)
 ·rw [decide_eq_false (fun q=>q e)]
  simp only [Prod.mk.injEq] at e
  simp [e]
 ·rw [decide_eq_true e]
  simp only [Prod.mk.injEq] at e
  cases hb:((a1 == b1) && ((a2 == b2) && ((a3 == b3) && ((a4 == b4) && (a5 == b5))))) with
  | false=>rfl
  | true =>
   simp only [Bool.and_eq_true,beq_iff_eq] at hb
   exact absurd hb e
theorem Y4r (l m:List Ev) (hl:l.length ≤ 4294967296) (hm:m.length ≤ 4294967296):Z3z (l,m)=some (decide (l=m)):=by
 unfold Z3z
 simp only
 by_cases hn:l.length=m.length
 ·have key:=Y8d (f:=Z8q) l m hn (fun k=>(l,m,(l.length:Int),(k:Int))) (.inl false) (.inr ()) (fun k h h'=>by
   have z1:getAt ((0:Int),(0:Int),(0:Int),(0:Int),(0:Int)) l (toN (k:Int))=l[k]:=getAtL _ h
   have z2:getAt ((0:Int),(0:Int),(0:Int),(0:Int),(0:Int)) m (toN (k:Int))=m[k]:=getAtL _ h'
   unfold Z8q
   simp only [z1,z2]
   rw [bif_t (decide_eq_true (by omega)),bif_t (Y6s h),bif_t (Y6s h'),show (Bool.not _)=_ from evne l[k] m[k]]
   by_cases e:l[k]=m[k]
   ·rw [if_pos e,bif_f (decide_eq_false (fun q=>q e)),wrapI (by omega) (by omega)]; rfl
   ·rw [if_neg e,bif_t (decide_eq_true e)]) (by
   unfold Z8q
   simp only
   rw [bif_f (decide_eq_false (by omega))])
  rw [bif_f (by rw [hn]; simp),show loop Z8q (l,m,(l.length:Int),0)=_ from key]
  simp only [Option.bind_some]
  by_cases e:l=m
  ·rw [if_pos e,decide_eq_true e]
  ·rw [if_neg e,decide_eq_false e]
 ·rw [bif_t (bne_iff_ne.2 (by omega)),decide_eq_false (fun e=>hn (by rw [e]))]
theorem Yd8 (r s:RT) (h:r.2.1.length ≤ 28001∧r.2.2.length ≤ 400) (h':s.2.1.length ≤ 28001∧s.2.2.length ≤ 400):Z43 (r,s)=some (decide (r.1=s.1∧r.2.1=s.2.1∧r.2.2=s.2.2)):=by
 obtain ⟨a,b,c⟩:=r
 obtain ⟨a',b',c'⟩:=s
 simp only at h h'
 unfold Z43
 simp only
 by_cases e1:a=a'
 ·rw [bif_t (beq_iff_eq.2 e1),Y4r b b' (by omega) (by omega)]
  simp only [Option.bind_some]
  by_cases e2:b=b'
  ·rw [bif_t (decide_eq_true e2),Ycv c c' (by omega) (by omega)]
   simp only [Option.bind_some]
   by_cases e3:c=c'
   ·rw [decide_eq_true e3,decide_eq_true ⟨e1,e2,e3⟩]
   ·rw [decide_eq_false e3,decide_eq_false (fun q=>e3 q.2.2)]
  ·rw [bif_f (decide_eq_false e2),decide_eq_false (fun q=>e2 q.2.1)]
 ·rw [bif_f (beq_eq_false_iff_ne.2 e1),decide_eq_false (fun q=>e1 q.1)]
theorem Ya0 {α:Type} {l:List α} (h:l.Nodup) {i j:Nat} (hi:i < l.length) (hj:j < l.length) (e:l[i]=l[j]):i=j:=by
 have:=List.pairwise_iff_getElem.1 h
 rcases Nat.lt_trichotomy i j with q | q | q
 ·exact absurd e (this i j hi hj q)
 ·exact q
 ·exact absurd e.symm (this j i hj hi q)
theorem Y2u (s:MS) (g:Int):(s.choG g).Nodup∧∀ c ∈ s.choG g,c.1=g:=by
 unfold MS.choG
 split
 ·exact ⟨List.nodup_nil,fun c h=>by cases h⟩
 split
 ·refine ⟨by simp,fun c h=>?_⟩
  rw [List.mem_singleton.1 h]
 ·unfold MS.rdyL
  split
  ·exact ⟨List.nodup_nil,fun c h=>by cases h⟩
  ·refine ⟨?_,fun c h=>?_⟩
   ·unfold List.Nodup
    rw [List.pairwise_map]
    refine List.Pairwise.imp ?_ (List.Pairwise.filter _ List.nodup_range)
    intro a b hab e
    have:=(Prod.mk.inj e).2
    omega
   ·obtain ⟨k,_,e⟩:=List.mem_map.1 h
    rw [← e]
theorem Y2z (s:MS):s.chs.Nodup:=by
 unfold MS.chs
 split
 ·exact List.nodup_nil
 ·have:∀ n:Nat,((List.range n).flatMap fun (g:Nat)=>s.choG (g:Int)).Nodup∧∀ c ∈ (List.range n).flatMap fun (g:Nat)=>s.choG (g:Int),c.1 < n:=by
   intro n
   induction n with
   | zero=>exact ⟨List.nodup_nil,fun c h=>by cases h⟩
   | succ n ih =>
    have ho:=Y2u s (n:Int)
    rw [List.range_succ,List.flatMap_append,List.flatMap_singleton]
    refine ⟨List.nodup_append.2 ⟨ih.1,ho.1,fun a ha b hb e=>?_⟩,fun c hc=>?_⟩
    ·have h1:=ih.2 a ha
     have h2:=ho.2 b hb
     rw [e,h2] at h1
     omega
    ·rcases List.mem_append.1 hc with h | h
     ·have:=ih.2 c h; omega
     ·have:=ho.2 c h; omega
  exact (this _).1
theorem Yb2:∀ (k n:Nat) (s:MS) (cs:List Ch) (P:List Int) (w:List Int) (a:Nat) (P':List Int),n+k ≤ 1000→RunOK n s cs→rep (play k s P).C s=some w→a < w.length→a < P'.length→(∀ i,i < a→P'.getD i 0=w.getD i 0) →
  0 ≤ P'.getD a 0→P'.getD a 0 < (play k s P).Wd.getD a 0→P'.getD a 0 ≠ w.getD a 0 →
  a < (play k s P').C.length∧(play k s P').C.take a=(play k s P).C.take a∧(play k s P').C ≠ (play k s P).C
 | 0,n,s,cs,P,w,a,P',hn,h,hw,ha,_,_,_,_,_=>by
  have:w=[]:=by
   have:some []=some w:=hw
   exact (Option.some.inj this).symm
  rw [this] at ha; cases ha
 | k+1,n,s,cs,P,w,a,P',hn,h,hw,ha,hl,h1,h2,h3,h4=>by
  by_cases h0:s.st=0
  case neg =>
   rw [Yb7 _ s P h0] at hw
   have:w=[]:=by
    have:some []=some w:=hw
    exact (Option.some.inj this).symm
   rw [this] at ha; cases ha
  obtain ⟨p1,p2,p3⟩:=h.pick h0 P
  obtain ⟨cs1,g1,f1,f2⟩:=h.step (by omega) p3
  obtain ⟨i,i1,i2,i3⟩:=Y56 p3
  rw [Yb3 k s P h0] at hw h3 ⊢
  have hw:rep (_ :: _) s=some w:=hw
  unfold rep at hw
  rw [i1] at hw
  simp only at hw
  obtain ⟨w',hw',rfl⟩:=Option.map_eq_some_iff.1 hw
  cases P' with
  | nil=>cases hl
  | cons b P' =>
   cases a with
   | zero =>
    have h2:0 ≤ b:=h2
    have h3:b < (s.chs.length:Int):=h3
    have h4:b ≠ (i:Int):=h4
    have hpk:pk (b :: P') s.chs.length=b.toNat:=by
     show (b % (s.chs.length:Int)).toNat=_
     rw [Int.emod_eq_of_lt h2 h3]
    rw [Yb3 k s (b :: P') h0,hpk]
    refine ⟨Nat.zero_lt_succ _,rfl,fun e=>?_⟩
    have e:=(List.cons.inj e).1
    rw [← i3] at e
    have hb:b.toNat < s.chs.length:=by omega
    rw [Y6d hb,Y6d i2] at e
    have:=Ya0 (Y2z s) hb i2 e
    omega
   | succ a =>
    have hb0:b=(i:Int):=h1 0 (Nat.zero_lt_succ _)
    have hpk:pk (b :: P') s.chs.length=i:=by
     show (b % (s.chs.length:Int)).toNat=_
     rw [Int.emod_eq_of_lt (by omega) (by omega)]; omega
    rw [Yb3 k s (b :: P') h0,hpk,i3]
    obtain ⟨r1,r2,r3⟩:=Yb2 k (n+1) _ cs1 P.tail w' a P' (by omega) g1 hw' (by have:a+1 < w'.length+1:=ha; omega) (by have:a+1 < P'.length+1:=hl; omega) (fun j hj=>h1 (j+1) (by omega)) h2 h3 h4
    exact ⟨Nat.succ_lt_succ r1,congrArg (List.cons _) r2,fun e=>r3 (List.cons.inj e).2⟩
end Go.Proofs.YthdlpkdojipfhaaGreat.VX.VxM_M
set_option linter.unusedVariables false
set_option linter.unusedSimpArgs false
namespace Go.Proofs.YthdlpkdojipfhaaGreat.VX.VxM_M
open Go.Proofs
theorem eighty (x:Int):1 ≤ IntKind.wrap .i64 (1+Int.tmod (IntKind.wrap .i64 (Int.tmod x 80+80)) 80)∧IntKind.wrap .i64 (1+Int.tmod (IntKind.wrap .i64 (Int.tmod x 80+80)) 80) ≤ 80:=by
 have h:=tm5 x 80 (by omega) (by omega)
 rw [wrapI (n:=1+_) (by omega) (by omega)]
 omega
theorem Ydw {l:List Int} {a:Nat} (h:a < l.length):l.set a (l.getD a 0)=l:=by
 apply List.ext_getElem
 ·simp
 ·intro i h1 h2
  rw [List.getElem_set]
  split
  ·rename_i e; subst e; rw [Y6d h]
  ·rfl
theorem Ydv {l:List Int} {a i:Nat} (v:Int) (h:a < l.length):(l.set a v).getD i 0=if i=a then v else l.getD i 0:=by
 simp only [List.getD,List.getElem?_set]
 by_cases e:a=i
 ·subst e; rw [if_pos rfl,if_pos rfl,if_pos h]; rfl
 ·rw [if_neg e,if_neg (fun q=>e q.symm)]
theorem runWidths_law (p:Pg) (P:List Int) (x t v:Int):F_plaitlaw13_RunWidths (p,P,x,t,v)=some true:=by
 have hPl:(P.take 80).length ≤ 80:=by simp; omega
 have hc2:cut P (toN 0) (toN (Min.min ((P.length:Nat):Int) 80) - toN 0)=P.take 80:=cutm P 80
 unfold F_plaitlaw13_RunWidths
 simp only
 rw [Y4x]
 simp only [Option.bind_some]
 have hsm:=Y4y p
 generalize fewP p=q at *
 have hn:=eighty x
 generalize IntKind.wrap .i64 (1+Int.tmod (IntKind.wrap .i64 (Int.tmod x 80+80)) 80)=n at *
 rw [bif_t (sub3L.2 ⟨by omega,by omega,by omega⟩),hc2]
 generalize P.take 80=P at *
 rw [run_x q hsm P (by omega)]
 simp only [Option.bind_some]
 unfold runF
 by_cases hq:rightP q
 case neg =>
  simp only [if_pos hq]
  rw [bif_t (by rfl),Y14]
  simp only [Option.bind_some]
  rw [bif_t (by rfl)]
  rfl
 have hR:=(Yci q).1 hq
 obtain ⟨cs,g0,_⟩:=Y9u hR
 have hl:=Yb4 n.toNat 0 (MS.new q) cs P (by omega) g0
 obtain ⟨w,w1,w2,w3,w4⟩:=Yb6 n.toNat 0 (MS.new q) cs P (by omega) g0
 simp only [hq,not_true_eq_false,if_false,if_neg (show ¬ (n < 1 ∨ 400 < n) by omega)]
 rw [bif_f (by rfl),Yc9 q hsm]
 simp only [Option.bind_some]
 rw [Yg1 q hsm P (by omega)]
 have hrp:repF q (runP q P n).2.2=(w,0):=by
  unfold repF
  rw [if_neg (fun z=>z hq),if_neg (by show ¬ 400 < (play n.toNat (MS.new q) P).C.length; omega)]
  show (match rep (play n.toNat (MS.new q) P).C (MS.new q) with | some w=>(w,(0:Int)) | none=>([],4))=_
  rw [w1]
 simp only [hq,not_true_eq_false,if_false,if_neg (show ¬ (n < 1 ∨ 400 < n) by omega),Option.bind_some,hrp]
 rw [bif_f (by rfl),bif_f (by rfl),hl.2.2,← w2,bif_f (by simp),Y14]
 simp only [Option.bind_some]
 rw [bif_f (by rfl)]
 by_cases hw0:w.length=0
 ·rw [bif_t (beq_iff_eq.2 (by omega))]
 rw [bif_f (beq_eq_false_iff_ne.2 (by omega)),bif_t (bne_iff_ne.2 (by omega)),bif_t (bne_iff_ne.2 (by omega))]
 have hA:=tm5 t (w.length:Int) (by omega) (by omega)
 generalize Int.tmod (IntKind.wrap .i64 (Int.tmod t (w.length:Int)+(w.length:Int))) (w.length:Int)=A at *
 obtain ⟨a,rfl⟩:=Int.eq_ofNat_of_zero_le hA.1
 have ha:a < w.length:=by omega
 obtain ⟨b1,b2,b3⟩:=w3 a ha
 have z1:getAt (0:Int) (play n.toNat (MS.new q) P).Wd (toN (a:Int))=(play n.toNat (MS.new q) P).Wd.getD a 0:=by rw [Y6b]; rfl
 have z2:getAt (0:Int) w (toN (a:Int))=w.getD a 0:=by rw [Y6b]; rfl
 simp only [z1,z2,List.nil_append]
 have hV:=tm5 v ((play n.toNat (MS.new q) P).Wd.getD a 0) (by omega) (by omega)
 rw [bif_t (Y6s ha),bif_f (decide_eq_false (by omega)),bif_t (Y6s ha),bif_f (decide_eq_false (by omega)),bif_t (Y6s ha),bif_t (Y6s ha),bif_f (decide_eq_false (by omega)),
  bif_t (Y5k.2 (by show 0+w.length ≤ _; omega)),bif_t (Y6s ha),bif_t (bne_iff_ne.2 (by omega)),bif_t (Y6s ha),bif_t (Y6s ha),bif_t (bne_iff_ne.2 (by omega)),bif_t (Y6s ha)]
 generalize Int.tmod (IntKind.wrap .i64 (Int.tmod v ((play n.toNat (MS.new q) P).Wd.getD a 0)+(play n.toNat (MS.new q) P).Wd.getD a 0)) ((play n.toNat (MS.new q) P).Wd.getD a 0)=V at *
 have hsl:(w.set (toN (a:Int)) V).length=w.length:=by simp
 rw [run_x q hsm _ (by omega)]
 simp only [Option.bind_some]
 unfold runF
 simp only [hq,not_true_eq_false,if_false,if_neg (show ¬ (n < 1 ∨ 400 < n) by omega)]
 rw [bif_f (by rfl)]
 have hgv:getAt (0:Int) (w.set (toN (a:Int)) V) (toN (a:Int))=V:=by
  rw [Y6b]
  show (w.set a V).getD a 0=V
  rw [Ydv V ha,if_pos rfl]
 have key:a < (runP q (w.set (toN (a:Int)) V) n).2.2.length∧(runP q (w.set (toN (a:Int)) V) n).2.2.take a=(runP q P n).2.2.take a ∧
   ((runP q P n).1=(runP q (w.set (toN (a:Int)) V) n).1∧(runP q P n).2.1=(runP q (w.set (toN (a:Int)) V) n).2.1∧(runP q P n).2.2=(runP q (w.set (toN (a:Int)) V) n).2.2 ↔ V=w.getD a 0):=by
  have e:w.set (toN (a:Int)) V=w.set a V:=rfl
  rw [e]
  by_cases hv:V=w.getD a 0
  ·have hs:w.set a V=w:=by rw [hv]; exact Ydw ha
   have hp:play n.toNat (MS.new q) w=play n.toNat (MS.new q) P:=w4 w (Nat.le_refl _) (fun i hi=>by
    obtain ⟨x,y,_⟩:=w3 i hi
    exact Int.emod_eq_of_lt x y)
   have hr:runP q w n=runP q P n:=by unfold runP; rw [hp]
   rw [hs,hr]
   exact ⟨by show a < (play n.toNat (MS.new q) P).C.length; omega,rfl,⟨fun _=>hv,fun _=>⟨rfl,rfl,rfl⟩⟩⟩
  ·obtain ⟨r1,r2,r3⟩:=Yb2 n.toNat 0 (MS.new q) cs P w a (w.set a V) (by omega) g0 w1 ha (by simpa using ha) (fun i hi=>by rw [Ydv V ha,if_neg (by omega)]) (by rw [Ydv V ha,if_pos rfl]; exact hV.1) (by rw [Ydv V ha,if_pos rfl]; exact hV.2) (by rw [Ydv V ha,if_pos rfl]; exact hv)
   exact ⟨r1,r2,⟨fun h=>absurd h.2.2.symm r3,fun h=>absurd h hv⟩⟩
 obtain ⟨k1,k2,k3⟩:=key
 have hb1:=Ycw hR P n (by omega)
 have hb2:=Ycw hR (w.set (toN (a:Int)) V) n (by omega)
 have hP2:(runP q P n).2.2.length=w.length:=w2.symm
 rw [bif_f (decide_eq_false (by omega)),Yd8 _ _ hb1 hb2]
 simp only [Option.bind_some]
 rw [bif_t (Y6s (by omega)),bif_t (Y6s ha),hgv]
 have hbeq:(decide ((runP q P n).1=(runP q (w.set (toN (a:Int)) V) n).1∧(runP q P n).2.1=(runP q (w.set (toN (a:Int)) V) n).2.1∧(runP q P n).2.2=(runP q (w.set (toN (a:Int)) V) n).2.2) == (V == w.getD a 0))=true:=by
  by_cases hv:V=w.getD a 0
  ·rw [decide_eq_true (k3.2 hv),beq_iff_eq.2 hv]; rfl
  ·rw [decide_eq_false (fun z=>hv (k3.1 z)),beq_eq_false_iff_ne.2 hv]; rfl
 rw [bif_t hbeq,bif_t (sub3L.2 ⟨by omega,by omega,by omega⟩),bif_t (sub3L.2 ⟨by omega,by omega,by omega⟩)]
 rw [cut_to,cut_to,k2,Ycu _ (by rw [List.length_take]; omega)]
 rfl
end Go.Proofs.YthdlpkdojipfhaaGreat.VX.VxM_M

