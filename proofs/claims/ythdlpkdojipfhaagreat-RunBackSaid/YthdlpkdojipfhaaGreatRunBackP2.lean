/- Laid for the law RunBack. -/
import Derived.Test.YthdlpkdojipfhaaGreatRunBackP1
set_option linter.unusedVariables false
set_option linter.unusedSimpArgs false
namespace Go.Proofs.YthdlpkdojipfhaaGreat.VX.VxM_M
open Go.Proofs
section
variable {s s':MS} {g:Int}
def StK (s s':MS):Prop:=s'.st=s.st ∨ ((s'.st=3 ∨ s'.st=4)∧s'.gs=s.gs)
theorem Y43 (s:MS) (x:W) (k no:Int) (b:Bool):(s.done x k no b).st=s.st:=by
 unfold MS.done MS.done1
 split
 ·rfl
 ·split <;> rfl
theorem Yat (s:MS) (x:W) (k:Int) (b:Bool):StK s (s.pass x k b):=by
 unfold MS.pass
 split
 ·exact .inl rfl
 ·split
  ·exact .inr ⟨.inl rfl,rfl⟩
  ·left
   rw [Y43]
   split
   ·rfl
   ·rw [Y43]; rfl
theorem Yfs (nx:Nat→MS→MS) (h:∀ k s,(nx k s).st=s.st):∀ m k s,(upto nx k m s).st=s.st
 | 0,k,s=>rfl
 | m+1,k,s=>(Yfs nx h m (k+1) (nx k s)).trans (h k s)
theorem Ye1 (s:MS) (k:Int) (l:List W):(s.shutL k l).st=s.st:=by
 have:∀ m j (q:MS × List Int),(upto (MS.shutS k l) j m q).1.st=q.1.st:=by
  intro m
  induction m with
  | zero=>exact fun j q=>rfl
  | succ m ih =>
   intro j q
   refine (ih (j+1) (MS.shutS k l j q)).trans ?_
   unfold MS.shutS
   split
   ·rfl
   ·exact Y43 _ _ _ _ _
 exact this l.length 0 (s,[])
theorem Yac (s:MS) (g t:Int) (l:List Cs):(s.offers g t l).st=s.st:=by
 unfold MS.offers
 exact Yfs (fun n (s:MS)=>(s.offer (g,(n:Int),t) (l.getD n (false,0)).2 (l.getD n (false,0)).1).2) (fun k q=>rfl) _ _ _
theorem Ye9 (s:MS) (l:List W):(s.skips l).st=s.st:=by
 unfold MS.skips
 exact Yfs (fun k (s:MS)=>s.skip (l.getD k zeroW).1 (l.getD k zeroW).2.2) (fun k q=>rfl) _ _ _
theorem Y12 {P:MS→Prop} (s:MS) (c:Cho) (h0:P (s.on c.1)) (h1:P (s.sendO c.1 (s.instr c.1).2.1)) (h2:P (s.recvO c.1 (s.instr c.1).2.1)) (h3:P (s.shutO c.1 (s.instr c.1).2.1)) (h4:P (s.selO c.1 c.2 (s.instr c.1).2.1)) (h5:P (s.lock c.1 (s.instr c.1).2.1)) (h6:P (s.unlock c.1 (s.instr c.1).2.1)) (h7:P (s.doO c.1 (s.instr c.1).2.1)) (h8:P (s.endO c.1 (s.instr c.1).2.1)) (h9:P (s.beginO c.1 (s.instr c.1).2.1)) (h10:P (s.access 16 c.1 (s.instr c.1).2.1)) (h11:P (s.access 17 c.1 (s.instr c.1).2.1)) (h12:P (s.to c.1 (s.instr c.1).2.1)) (h13:P (s.orElse c.1 (s.instr c.1).2.1)):P (s.act c):=by
 unfold MS.act
 by_cases c0:(s.instr c.1).1=0
 ·rw [if_pos c0]; exact h0
 rw [if_neg c0]
 by_cases c1:(s.instr c.1).1=1
 ·rw [if_pos c1]; exact h1
 rw [if_neg c1]
 by_cases c2:(s.instr c.1).1=2
 ·rw [if_pos c2]; exact h2
 rw [if_neg c2]
 by_cases c3:(s.instr c.1).1=3
 ·rw [if_pos c3]; exact h3
 rw [if_neg c3]
 by_cases c4:(s.instr c.1).1=4
 ·rw [if_pos c4]; exact h4
 rw [if_neg c4]
 by_cases c5:(s.instr c.1).1=5
 ·rw [if_pos c5]; exact h5
 rw [if_neg c5]
 by_cases c6:(s.instr c.1).1=6
 ·rw [if_pos c6]; exact h6
 rw [if_neg c6]
 by_cases c7:(s.instr c.1).1=7
 ·rw [if_pos c7]; exact h7
 rw [if_neg c7]
 by_cases c8:(s.instr c.1).1=8
 ·rw [if_pos c8]; exact h8
 rw [if_neg c8]
 by_cases c9:(s.instr c.1).1=9
 ·rw [if_pos c9]; exact h9
 rw [if_neg c9]
 by_cases c10:(s.instr c.1).1=10
 ·rw [if_pos c10]; exact h10
 rw [if_neg c10]
 by_cases c11:(s.instr c.1).1=11
 ·rw [if_pos c11]; exact h11
 rw [if_neg c11]
 by_cases c12:(s.instr c.1).1=12
 ·rw [if_pos c12]; exact h12
 rw [if_neg c12]
 exact h13
theorem act_st (s:MS) (c:Cho):StK s (s.act c):=by
 refine Y12 (P:=fun q=>StK s q) s c ?_ ?_ ?_ ?_ ?_ ?_ ?_ ?_ ?_ ?_ ?_ ?_ ?_ ?_
 ·exact .inl rfl
 ·exact Yat (s.tell (c.1,2,(s.instr c.1).2.1,0,-1)) _ _ _
 ·exact Yat (s.tell (c.1,4,(s.instr c.1).2.1,0,-1)) _ _ _
 ·unfold MS.shutO
  split
  ·exact .inr ⟨.inl rfl,rfl⟩
  ·left; rw [Ye1]; rfl
 ·unfold MS.selO
  split
  ·exact Yat (s.tell (c.1,8,(s.instr c.1).2.1,0,-1)) _ _ _
  ·split
   ·exact .inl rfl
   ·left
    exact Yac _ _ _ _
 ·unfold MS.lock
  split <;> exact .inl rfl
 ·unfold MS.unlock
  split
  ·exact .inr ⟨.inl rfl,rfl⟩
  ·split <;> exact .inl rfl
 ·unfold MS.doO
  split
  ·exact .inl rfl
  split
  ·exact .inl rfl
  split <;> exact .inl rfl
 ·unfold MS.endO
  split
  ·left
   exact Ye9 _ _
  ·exact .inr ⟨.inl rfl,rfl⟩
 ·unfold MS.beginO
  split
  ·exact .inr ⟨.inr rfl,rfl⟩
  ·exact .inl rfl
 ·exact .inl rfl
 ·exact .inl rfl
 ·exact .inl rfl
 ·unfold MS.orElse
  split <;> exact .inl rfl
structure SS (s:MS):Prop where
 go:s.st=0→anyS s.gs 0=true
 all:s.st=1→∀ x ∈ s.gs,x.2.2.1=2
 dead:s.st=2→(∀ x ∈ s.gs,x.2.2.1 ≠ 0)∧∃ x ∈ s.gs,x.2.2.1=1
 odd:s.st ≠ 0→s.st ≠ 1→∃ x ∈ s.gs,x.2.2.1 ≠ 2
theorem Y18 (gs:List Gor) (n:Int):anyS gs n=true ↔ ∃ x ∈ gs,x.2.2.1=n:=by
 unfold anyS
 rw [List.any_eq_true]
 constructor
 ·rintro ⟨x,hx,e⟩; exact ⟨x,hx,by simpa using e⟩
 ·rintro ⟨x,hx,e⟩; exact ⟨x,hx,by simpa using e⟩
theorem Ydy (hg:∀ x ∈ s.gs,0 ≤ x.2.2.1∧x.2.2.1 ≤ 2) (h:s.st=0 ∨ ((s.st=3 ∨ s.st=4)∧∃ x ∈ s.gs,x.2.2.1 ≠ 2)):SS s.settle:=by
 unfold MS.settle
 rcases h with h | ⟨h1,h2⟩
 ·by_cases c1:anyS s.gs 0=true
  ·rw [if_pos (.inr c1)]
   exact ⟨fun _=>c1,fun q=>by omega,fun q=>by omega,fun q _=>absurd h q⟩
  ·rw [if_neg (fun q=>q.elim (fun z=>z h) c1)]
   have h0:∀ x ∈ s.gs,x.2.2.1 ≠ 0:=fun x hx e=>c1 ((Y18 _ _).2 ⟨x,hx,e⟩)
   by_cases c2:anyS s.gs 1=true
   ·rw [if_pos c2]
    obtain ⟨x,hx,e⟩:=(Y18 _ _).1 c2
    exact ⟨fun q=>by have:(2:Int)=0:=q; omega,fun q=>by have:(2:Int)=1:=q; omega,fun _=>⟨h0,x,hx,e⟩,fun _ _=>⟨x,hx,by omega⟩⟩
   ·rw [if_neg c2]
    have h1:∀ x ∈ s.gs,x.2.2.1 ≠ 1:=fun x hx e=>c2 ((Y18 _ _).2 ⟨x,hx,e⟩)
    exact ⟨fun q=>by have:(1:Int)=0:=q; omega,fun _ x hx=>by have:=h0 x hx; have:=h1 x hx; have:=hg x hx; omega,fun q=>by have:(1:Int)=2:=q; omega,fun _ q=>absurd rfl q⟩
 ·rw [if_pos (.inl (by omega))]
  exact ⟨fun q=>by omega,fun q=>by omega,fun q=>by omega,fun _ _=>h2⟩
theorem Yey (h:GI s (-1)) {c:Cho} (hc:c ∈ s.chs) (ha:GI (s.clear.act c) (-1)):SS (s.step c):=by
 obtain ⟨h0,r,_,_⟩:=Y2y h hc
 refine Ydy (gi_st ha) ?_
 rcases act_st s.clear c with e | ⟨e1,e2⟩
 ·exact .inl (e.trans h0)
 ·refine .inr ⟨e1,gAt s.gs c.1,by rw [e2]; exact Y69 r.hg,?_⟩
  have:=r.st
  show (s.g c.1).2.2.1 ≠ 2
  omega
theorem new_ss {p:Pg} (hp:RightP p):SS (MS.new p):=by
 have hsz:=hp.sizes
 unfold Ye5 at hsz
 simp only [Bool.and_eq_true,decide_eq_true_eq,Y6s] at hsz
 refine Ydy (fun x hx=>?_) (.inl rfl)
 have:x=gTo p (0,0,0,false) 0:=List.mem_singleton.1 hx
 rw [this]
 show 0 ≤ (if (0:Int)=_ then (2:Int) else 0)∧(if (0:Int)=_ then (2:Int) else 0) ≤ 2
 split <;> omega
theorem Y2z (h:SS s):s.chs=[] ↔ s.st ≠ 0:=by
 constructor
 ·intro e q
  obtain ⟨x,hx,e0⟩:=(Y18 _ _).1 (h.go q)
  obtain ⟨k,hk,ek⟩:=List.mem_iff_getElem.1 hx
  unfold MS.chs at e
  rw [if_neg (fun z=>z q)] at e
  have hg:s.g (k:Int)=x:=by
   show s.gs.getD (k:Int).toNat zGor=x
   rw [show (k:Int).toNat=k by omega,Y6e hk,ek]
  have:s.choG (k:Int) ≠ []:=by
   unfold MS.choG
   rw [if_neg (by rw [hg,e0]; simp)]
   split
   ·simp
   ·assumption
  have:=List.flatMap_eq_nil_iff.1 e k (List.mem_range.2 hk)
  contradiction
 ·intro q
  unfold MS.chs
  rw [if_pos q]
end
end Go.Proofs.YthdlpkdojipfhaaGreat.VX.VxM_M
set_option linter.unusedVariables false
set_option linter.unusedSimpArgs false
namespace Go.Proofs.YthdlpkdojipfhaaGreat.VX.VxM_M
open Go.Proofs
def pk (P:List Int) (n:Nat):Nat:=match P with | []=>0 | a :: _=>(a % (n:Int)).toNat
structure Pl where
 s:MS
 L:List Ev
 C:List Cho
 Wd:List Int
def play:Nat→MS→List Int→Pl
 | 0,s,_=>⟨s,[],[],[]⟩
 | k+1,s,P=>if s.st ≠ 0 then ⟨s,[],[],[]⟩ else
  let c:=s.chs.getD (pk P s.chs.length) (0,0)
  let r:=play k (s.step c) P.tail
  ⟨r.s,(s.step c).L++r.L,c :: r.C,(s.chs.length:Int) :: r.Wd⟩
def left:Nat→MS→List Int→List Int
 | 0,_,P=>P
 | k+1,s,P=>if s.st ≠ 0 then P else left k (s.step (s.chs.getD (pk P s.chs.length) (0,0))) P.tail
theorem pk_lt (P:List Int) {n:Nat} (h:0 < n):pk P n < n:=by
 unfold pk
 cases P with
 | nil=>exact h
 | cons a l =>
  have h1:=Int.emod_nonneg a (show (n:Int) ≠ 0 by omega)
  have h2:=Int.emod_lt_of_pos a (show (0:Int) < n by omega)
  simp only
  omega
theorem Yfg (a:Int) (n:Nat) (h:0 < n):(if Int.tmod a n < 0 then Int.tmod a n+n else Int.tmod a n)=a % (n:Int):=by
 rw [Int.tmod_eq_emod]
 have h1:=Int.emod_nonneg a (show (n:Int) ≠ 0 by omega)
 have h2:=Int.emod_lt_of_pos a (show (0:Int) < n by omega)
 split
 ·split <;> omega
 ·rename_i hc
  rw [not_or] at hc
  have hnd:a % (n:Int) ≠ 0:=fun e=>hc.2 (Int.dvd_of_emod_eq_zero e)
  split <;> omega
theorem next_x (P:List Int) (n:Nat) (h:0 < n) (hn:n ≤ 1000) (hP:P.length ≤ 4294967296):Z5t ((n:Int),P)=some ((pk P n:Int),P.tail):=by
 unfold Z5t
 simp only
 cases P with
 | nil=>rfl
 | cons a l =>
  have ht:=Yfg a n h
  have hg:getAt (0:Int) (a :: l) (toN 0)=a:=rfl
  have hcut:cut (a :: l) (toN 1) (toN (((a :: l).length:Nat):Int) - toN 1)=l:=by
   unfold cut toN
   simp
  have hl:(a :: l).length=l.length+1:=rfl
  have e1:=Int.emod_nonneg a (show (n:Int) ≠ 0 by omega)
  have e2:=Int.emod_lt_of_pos a (show (0:Int) < n by omega)
  have hb1:Int.tmod a n < n:=Int.tmod_lt_of_pos a (by omega)
  have hb2:-(n:Int) < Int.tmod a n:=by
   have:=Int.lt_tmod_of_pos a (show (0:Int) < n by omega)
   simpa using this
  rw [bif_f (beq_eq_false_iff_ne.2 (by omega)),bif_t (inbL.2 (by omega)),bif_t (bne_iff_ne.2 (by omega)),bif_t (sub3L.2 (by omega)),hg,hcut]
  show (bif decide (Int.tmod a n < 0) then _ else _)=some ((((a % (n:Int)).toNat:Nat):Int),l)
  rw [show (((a % (n:Int)).toNat:Nat):Int)=a % (n:Int) by omega,← ht]
  by_cases c:Int.tmod a n < 0
  ·rw [bif_t (decide_eq_true c),if_pos c,wrapI (by omega) (by omega)]
  ·rw [bif_f (decide_eq_false c),if_neg c]
structure RunOK (n:Nat) (s:MS) (cs:List Ch):Prop where
 g:GoodN n s cs
 ss:SS s
theorem RunOK.step {n:Nat} {s:MS} {cs:List Ch} (h:RunOK n s cs) (hn:n ≤ 1000) {c:Cho} (hc:c ∈ s.chs):∃ cs',RunOK (n+1) (s.step c) cs'∧Z1a (s.w cs,c)=some ((s.step c).w cs',(s.step c).L,0)∧(s.step c).L.length ≤ 70:=by
 obtain ⟨cs',g1,e1⟩:=h.g.step hn hc
 have hb:s.clear.Bd 100:=⟨by show 0+100 ≤ 900000; omega,h.g.ev.1,by show s.ev+100 ≤ 3000000; have:=h.g.ev.2; omega⟩
 exact ⟨cs',⟨g1,Yey h.g.gi hc (act_gi (s:=s.clear) (cs:=cs) h.g.rel h.g.gi.clear hc hb (fun a ha=>by have:=h.g.sent a ha; omega))⟩,e1,Yev h.g hc⟩
theorem RunOK.pick {n:Nat} {s:MS} {cs:List Ch} (h:RunOK n s cs) (h0:s.st=0) (P:List Int):0 < s.chs.length∧s.chs.length ≤ 32∧s.chs.getD (pk P s.chs.length) (0,0) ∈ s.chs:=by
 have hne:s.chs ≠ []:=fun e=>(Y2z h.ss).1 e h0
 have hp:0 < s.chs.length:=List.length_pos_iff.2 hne
 exact ⟨hp,Y2x h.g.gi,Y95 (pk_lt P hp) _⟩
theorem Yb6 (N:Int) (hN:N ≤ 400):∀ (k n:Nat) (s:MS) (cs:List Ch) (P:List Int) (L:List Ev) (C:List Cho) (Wd:List Int),(n:Int)+k=N→RunOK n s cs→P.length ≤ 4294967296→L.length ≤ 1+70 * n→C.length ≤ n→Wd.length ≤ n →
  ∃ cs',RelCs cs' (play k s P).s.cs∧loop Z96 (N,(n:Int),P,0,s.w cs,0,Wd,L,C)=some (left k s P,0,(play k s P).s.w cs',0,Wd++(play k s P).Wd,L++(play k s P).L,C++(play k s P).C)
 | 0,n,s,cs,P,L,C,Wd,hn,h,hP,hL,hC,hWd=>by
  refine ⟨cs,h.g.rel,?_⟩
  rw [Y8a]
  unfold Z96
  simp only
  rw [bif_f (decide_eq_false (by omega))]
  show _=some (P,0,s.w cs,0,Wd++[],L++[],C++[])
  rw [List.append_nil,List.append_nil,List.append_nil]
 | k+1,n,s,cs,P,L,C,Wd,hn,h,hP,hL,hC,hWd=>by
  rw [Y8a]
  by_cases h0:s.st=0
  case neg =>
   refine ⟨cs,?_,?_⟩
   ·show RelCs cs (if s.st ≠ 0 then (⟨s,[],[],[]⟩:Pl) else _).s.cs
    rw [if_pos h0]; exact h.g.rel
   ·have e1:play (k+1) s P=⟨s,[],[],[]⟩:=if_pos h0
    have e2:left (k+1) s P=P:=if_pos h0
    rw [e1,e2]
    unfold Z96
    simp only
    rw [bif_t (decide_eq_true (by omega)),bif_t (bne_iff_ne.2 h0),List.append_nil,List.append_nil,List.append_nil]
  obtain ⟨p1,p2,p3⟩:=h.pick h0 P
  obtain ⟨cs1,g1,f1,f2⟩:=h.step (by omega) p3
  have e1:play (k+1) s P=⟨(play k (s.step (s.chs.getD (pk P s.chs.length) (0,0))) P.tail).s,(s.step (s.chs.getD (pk P s.chs.length) (0,0))).L++(play k (s.step (s.chs.getD (pk P s.chs.length) (0,0))) P.tail).L,s.chs.getD (pk P s.chs.length) (0,0) :: (play k (s.step (s.chs.getD (pk P s.chs.length) (0,0))) P.tail).C,(s.chs.length:Int) :: (play k (s.step (s.chs.getD (pk P s.chs.length) (0,0))) P.tail).Wd⟩:=if_neg (fun q=>q h0)
  have e2:left (k+1) s P=left k (s.step (s.chs.getD (pk P s.chs.length) (0,0))) P.tail:=if_neg (fun q=>q h0)
  rw [e1,e2]
  have hget:getAt ((0:Int),(0:Int)) s.chs (toN ((pk P s.chs.length:Nat):Int))=s.chs.getD (pk P s.chs.length) (0,0):=by rw [Y6b]; rfl
  have hpl:=pk_lt P p1
  generalize hc:s.chs.getD (pk P s.chs.length) (0,0)=c at *
  have hf:Z96 (N,(n:Int),P,0,s.w cs,0,Wd,L,C)=some (.inl (N,((n+1:Nat):Int),P.tail,0,(s.step c).w cs1,0,Wd++[(s.chs.length:Int)],L++(s.step c).L,C++[c])):=by
   unfold Z96
   simp only
   rw [bif_t (decide_eq_true (by omega)),bif_f (show (s.st != 0)=false by rw [h0]; rfl),Y2w h.g.rel h.g.gi h.g.ev.1]
   simp only [Option.bind_some]
   rw [next_x P s.chs.length p1 (by omega) hP]
   simp only [Option.bind_some]
   rw [bif_t (Y6u hpl),hget,f1]
   simp only [Option.bind_some]
   rw [bif_t (Y5k.2 (by omega)),bif_t (Y5k.2 (by show C.length+1 ≤ _; omega)),bif_t (Y5k.2 (by show Wd.length+1 ≤ _; omega)),wrapI (n:=(n:Int)+1) (by omega) (by omega)]
   rfl
  obtain ⟨cs',r1,r2⟩:=Yb6 N hN k (n+1) (s.step c) cs1 P.tail (L++(s.step c).L) (C++[c]) (Wd++[(s.chs.length:Int)]) (by omega) g1 (by rw [List.length_tail]; omega) (by rw [List.length_append]; omega) (by rw [List.length_append]; show C.length+1 ≤ _; omega) (by rw [List.length_append]; show Wd.length+1 ≤ _; omega)
  refine ⟨cs',r1,?_⟩
  rw [hf]
  simp only
  rw [r2,List.append_assoc,List.append_assoc,List.append_assoc]
  rfl
end Go.Proofs.YthdlpkdojipfhaaGreat.VX.VxM_M
set_option linter.unusedVariables false
set_option linter.unusedSimpArgs false
namespace Go.Proofs.YthdlpkdojipfhaaGreat.VX.VxM_M
open Go.Proofs
theorem Yb8 (k:Nat) (s:MS) (P:List Int) (h:s.st ≠ 0):play k s P=⟨s,[],[],[]⟩:=by
 cases k with
 | zero=>rfl
 | succ k=>exact if_pos h
theorem Yb4 (k:Nat) (s:MS) (P:List Int) (h:s.st=0):play (k+1) s P=⟨(play k (s.step (s.chs.getD (pk P s.chs.length) (0,0))) P.tail).s,(s.step (s.chs.getD (pk P s.chs.length) (0,0))).L++(play k (s.step (s.chs.getD (pk P s.chs.length) (0,0))) P.tail).L,s.chs.getD (pk P s.chs.length) (0,0) :: (play k (s.step (s.chs.getD (pk P s.chs.length) (0,0))) P.tail).C,(s.chs.length:Int) :: (play k (s.step (s.chs.getD (pk P s.chs.length) (0,0))) P.tail).Wd⟩:=if_neg (fun q=>q h)
theorem Yb5:∀ (k n:Nat) (s:MS) (cs:List Ch) (P:List Int),n+k ≤ 1000→RunOK n s cs→(play k s P).L.length ≤ 70 * k∧(play k s P).C.length ≤ k∧(play k s P).Wd.length=(play k s P).C.length
 | 0,n,s,cs,P,_,_=>⟨Nat.le_refl _,Nat.le_refl _,rfl⟩
 | k+1,n,s,cs,P,hn,h=>by
  by_cases h0:s.st=0
  ·obtain ⟨p1,p2,p3⟩:=h.pick h0 P
   obtain ⟨cs1,g1,f1,f2⟩:=h.step (by omega) p3
   have ih:=Yb5 k (n+1) _ cs1 P.tail (by omega) g1
   rw [Yb4 k s P h0]
   refine ⟨?_,?_,?_⟩
   ·simp only [List.length_append]; omega
   ·show _+1 ≤ _
    omega
   ·show _+1=_+1
    omega
  ·rw [Yb8 _ s P h0]
   exact ⟨Nat.zero_le _,Nat.zero_le _,rfl⟩
abbrev RT:=Int × List Ev × List Cho
def endP (r:Pl):Int:=if r.s.st=0 then 5 else r.s.st
def runP (p:Pg) (P:List Int) (n:Int):RT:=(endP (play n.toNat (MS.new p) P),(0,0,0,0,-1) :: (play n.toNat (MS.new p) P).L,(play n.toNat (MS.new p) P).C)
theorem Y34 (l:List Ev) (h:l.length ≤ 4294967296):Z5z l=some l:=by
 unfold Z5z
 cases l with
 | nil =>
  rw [bif_t (by rfl)]
  unfold amb
  rw [bif_t (Y5k.2 (by simp))]
  simp
 | cons a l =>
  rw [bif_f (by rfl),bif_t (Y5k.2 (by simpa using h))]; rfl
theorem Y9v {p:Pg} (hp:RightP p):∃ cs,RunOK 0 (MS.new p) cs∧Z18 p=some ((MS.new p).w cs,[(0,0,0,0,-1)],0):=by
 obtain ⟨cs,h1,h2⟩:=new_x p (Yck hp)
 rw [if_pos ((Ycj p).2 hp)] at h2
 exact ⟨cs,⟨Y9u hp (h1 hp),new_ss hp⟩,h2⟩
theorem play_x {p:Pg} (hp:RightP p) (P:List Int) (hP:P.length ≤ 4294967296) (n:Int) (hn:1 ≤ n∧n ≤ 400):Z5v (p,n,P)=some (runP p P n,(play n.toNat (MS.new p) P).Wd,left n.toNat (MS.new p) P):=by
 obtain ⟨cs,g0,h2⟩:=Y9v hp
 obtain ⟨cs',r1,r2⟩:=Yb6 n (by omega) n.toNat 0 (MS.new p) cs P [(0,0,0,0,-1)] [] [] (by omega) g0 hP (by show 1 ≤ _; omega) (Nat.le_refl _) (Nat.le_refl _)
 unfold Z5v
 simp only
 rw [h2]
 simp only [Option.bind_some]
 rw [Y34 _ (by show 1 ≤ _; omega)]
 simp only [Option.bind_some]
 rw [show loop Z96 (n,0,P,0,(MS.new p).w cs,0,[],[(0,0,0,0,-1)],[])=_ from r2]
 simp only [Option.bind_some]
 unfold runP endP
 by_cases e:(play n.toNat (MS.new p) P).s.st=0
 ·rw [bif_t (beq_iff_eq.2 e),if_pos e]; rfl
 ·rw [bif_f (beq_eq_false_iff_ne.2 e),if_neg e]; rfl
def runF (p:Pg) (P:List Int) (n:Int):RT × Int:=if ¬ rightP p then ((0,[],[]),1) else if n < 1 ∨ 400 < n then ((0,[],[]),2) else (runP p P n,0)
theorem may_x (p:Pg) (hs:small p) (n:Int):Z5r (p,n)=some (if ¬ rightP p then 1 else if n < 1 ∨ 400 < n then 2 else 0):=by
 unfold Z5r
 simp only
 rw [Yan p hs]
 simp only [Option.bind_some]
 by_cases hp:rightP p
 ·rw [decide_eq_true hp,if_neg (fun q=>q hp),bif_f (by rfl)]
  by_cases h1:n < 1
  ·rw [bif_t (decide_eq_true h1),if_pos (.inl h1)]
  rw [bif_f (decide_eq_false h1)]
  by_cases h2:400 < n
  ·rw [bif_t (decide_eq_true h2),if_pos (.inr h2)]
  ·rw [bif_f (decide_eq_false h2),if_neg (fun q=>q.elim h1 h2)]
 ·rw [decide_eq_false hp,if_pos hp,bif_t (by rfl)]
theorem run_x (p:Pg) (hs:small p) (P:List Int) (hP:P.length ≤ 4294967296) (n:Int):Z5n (p,P,n)=some (runF p P n):=by
 unfold Z5n runF
 simp only
 rw [may_x p hs]
 simp only [Option.bind_some]
 by_cases hp:rightP p
 ·simp only [hp,not_true_eq_false,if_false]
  by_cases h:n < 1 ∨ 400 < n
  ·simp only [if_pos h]; rfl
  ·simp only [if_neg h]
   rw [bif_f (by rfl),play_x ((Ycj p).1 hp) P hP n (by omega)]
   rfl
 ·simp only [if_pos hp]; rfl
theorem Yg2 (p:Pg) (hs:small p) (P:List Int) (hP:P.length ≤ 4294967296) (n:Int):Z5p (p,P,n)=some (if ¬ rightP p then ([],1) else if n < 1 ∨ 400 < n then ([],2) else ((play n.toNat (MS.new p) P).Wd,0)):=by
 unfold Z5p
 simp only
 rw [may_x p hs]
 simp only [Option.bind_some]
 by_cases hp:rightP p
 ·simp only [hp,not_true_eq_false,if_false]
  by_cases h:n < 1 ∨ 400 < n
  ·simp only [if_pos h]; rfl
  ·simp only [if_neg h]
   rw [bif_f (by rfl),play_x ((Ycj p).1 hp) P hP n (by omega)]
   rfl
 ·simp only [if_pos hp]; rfl
theorem Ycw {p:Pg} (hp:RightP p) (P:List Int) (n:Int) (hn:n ≤ 400):(runP p P n).2.1.length ≤ 28001∧(runP p P n).2.2.length ≤ 400:=by
 obtain ⟨cs,g0,_⟩:=Y9v hp
 have:=Yb5 n.toNat 0 (MS.new p) cs P (by omega) g0
 refine ⟨?_,?_⟩
 ·show _+1 ≤ _
  omega
 ·show (play n.toNat (MS.new p) P).C.length ≤ _
  omega
theorem Yd8 (r:RT) (h:r.2.1.length ≤ 28001∧r.2.2.length ≤ 400):Z43 (r,r)=some true:=by
 unfold Z43
 simp only
 rw [bif_t (by simp),Y4r _ (by omega)]
 simp only [Option.bind_some]
 rw [bif_t (by rfl),Ycv _ (by omega)]
 rfl
theorem Y14:Z3s ()=some true:=by
 unfold Z3s
 rw [show Z3w ()=some pp from rfl]
 simp only [Option.bind_some]
 rw [run_x pp (Yck Ybd) [] (by show 0 ≤ _; omega) 9]
 rw [show runF pp [] 9=(runP pp [] 9,0) from rfl]
 simp only [Option.bind_some]
 rfl
theorem Y4x (p:Pg):Z3u p=some (fewP p):=few_x p
end Go.Proofs.YthdlpkdojipfhaaGreat.VX.VxM_M
set_option linter.unusedVariables false
set_option linter.unusedSimpArgs false
namespace Go.Proofs.YthdlpkdojipfhaaGreat.VX.VxM_M
open Go.Proofs
theorem Y6p (x:Int):1 ≤ IntKind.wrap .i64 (1+Int.tmod (IntKind.wrap .i64 (Int.tmod x 100+100)) 100)∧IntKind.wrap .i64 (1+Int.tmod (IntKind.wrap .i64 (Int.tmod x 100+100)) 100) ≤ 100:=by
 have h1:Int.tmod x 100 < 100:=Int.tmod_lt_of_pos _ (by decide)
 have h2:-100 < Int.tmod x 100:=by simpa using Int.lt_tmod_of_pos x (show (0:Int) < 100 by decide)
 rw [wrapI (n:=Int.tmod x 100+100) (by omega) (by omega)]
 have h3:0 ≤ Int.tmod (Int.tmod x 100+100) 100:=Int.tmod_nonneg _ (by omega)
 have h4:Int.tmod (Int.tmod x 100+100) 100 < 100:=Int.tmod_lt_of_pos _ (by decide)
 rw [wrapI (by omega) (by omega)]
 omega
end Go.Proofs.YthdlpkdojipfhaaGreat.VX.VxM_M
set_option linter.unusedVariables false
set_option linter.unusedSimpArgs false
namespace Go.Proofs.YthdlpkdojipfhaaGreat.VX.VxM_M
open Go.Proofs
end Go.Proofs.YthdlpkdojipfhaaGreat.VX.VxM_M
set_option linter.unusedVariables false
set_option linter.unusedSimpArgs false
namespace Go.Proofs.YthdlpkdojipfhaaGreat.VX.VxM_M
open Go.Proofs
theorem Yd9:Z43 ((0,[],[]),0,[],[])=some true:=Yd8 (0,[],[]) ⟨by show 0 ≤ _; omega,by show 0 ≤ _; omega⟩
end Go.Proofs.YthdlpkdojipfhaaGreat.VX.VxM_M
set_option linter.unusedVariables false
set_option linter.unusedSimpArgs false
namespace Go.Proofs.YthdlpkdojipfhaaGreat.VX.VxM_M
open Go.Proofs
def rep:List Cho→MS→Option (List Int)
 | [],_=>some []
 | c :: l,s=>match s.chs.findIdx? (fun x=>decide (c=x)) with
  | none=>none
  | some i=>(rep l (s.step c)).map fun w=>(i:Int) :: w
theorem Y55 {l:List Cho} {c:Cho} {i:Nat} (h:l.findIdx? (fun x=>decide (c=x))=some i):c ∈ l∧i < l.length:=by
 rw [List.findIdx?_eq_some_iff_getElem] at h
 obtain ⟨hi,e,_⟩:=h
 have e:=of_decide_eq_true e
 exact ⟨by rw [e]; exact List.getElem_mem hi,hi⟩
theorem Yc9 (C:List Cho) (hC:C.length ≤ 400):∀ (k n:Nat) (s:MS) (cs:List Ch) (acc:List Int),n+k=C.length→RunOK n s cs→acc.length ≤ n →
  loop Z94 (C,(C.length:Int),(n:Int),s.w cs,acc)=some (match rep (C.drop n) s with | some w=>.inr (acc++w) | none=>.inl 4)
 | 0,n,s,cs,acc,hn,h,ha=>by
  rw [Y8a]
  unfold Z94
  simp only
  rw [bif_f (decide_eq_false (by omega)),List.drop_of_length_le (by omega)]
  show _=some (Sum.inr (acc++[]))
  rw [List.append_nil]
 | k+1,n,s,cs,acc,hn,h,ha=>by
  have hnl:n < C.length:=by omega
  have hg:getAt ((0:Int),(0:Int)) C (toN (n:Int))=C[n]:=getAtL _ hnl
  have hcl:=Y2x h.g.gi
  rw [Y8a,List.drop_eq_getElem_cons hnl]
  unfold rep
  have hix:=Y70 s.chs C[n] (by omega)
  cases hfi:s.chs.findIdx? (fun x=>decide (C[n]=x)) with
  | none =>
   rw [hfi] at hix
   have hf:Z94 (C,(C.length:Int),(n:Int),s.w cs,acc)=some (.inr (.inl 4)):=by
    unfold Z94
    simp only [hg]
    rw [bif_t (decide_eq_true (by omega)),bif_t (Y6u hnl),Y2w h.g.rel h.g.gi h.g.ev.1]
    simp only [Option.bind_some]
    rw [hix]
    rfl
   rw [hf]
  | some i =>
   rw [hfi] at hix
   obtain ⟨hm,hi⟩:=Y55 hfi
   obtain ⟨cs1,g1,f1,f2⟩:=h.step (by omega) hm
   have hf:Z94 (C,(C.length:Int),(n:Int),s.w cs,acc)=some (.inl (C,(C.length:Int),((n+1:Nat):Int),(s.step C[n]).w cs1,acc++[(i:Int)])):=by
    unfold Z94
    simp only [hg]
    rw [bif_t (decide_eq_true (by omega)),bif_t (Y6u hnl),Y2w h.g.rel h.g.gi h.g.ev.1]
    simp only [Option.bind_some]
    rw [hix]
    simp only [Option.bind_some]
    rw [bif_f (decide_eq_false (by omega)),bif_t (Y5k.2 (by show acc.length+1 ≤ _; omega)),f1]
    simp only [Option.bind_some]
    rw [wrapI (by omega) (by omega)]
    rfl
   rw [hf]
   simp only
   rw [Yc9 C hC k (n+1) (s.step C[n]) cs1 (acc++[(i:Int)]) (by omega) g1 (by rw [List.length_append]; show acc.length+1 ≤ _; omega)]
   cases rep (C.drop (n+1)) (s.step C[n]) with
   | none=>rfl
   | some w =>
    show some (Sum.inr ((acc++[(i:Int)])++w))=some (Sum.inr (acc++(i:Int) :: w))
    rw [List.append_assoc]; rfl
end Go.Proofs.YthdlpkdojipfhaaGreat.VX.VxM_M
set_option linter.unusedVariables false
set_option linter.unusedSimpArgs false
namespace Go.Proofs.YthdlpkdojipfhaaGreat.VX.VxM_M
open Go.Proofs
def repF (p:Pg) (C:List Cho):List Int × Int:=if ¬ rightP p then ([],1) else if 400 < C.length then ([],2) else match rep C (MS.new p) with | some w=>(w,0) | none=>([],4)
theorem Yca (p:Pg) (hs:small p) (C:List Cho):Z5l (p,C)=some (repF p C):=by
 obtain ⟨cs0,h1,h2⟩:=new_x p hs
 unfold Z5l repF
 simp only
 rw [h2]
 simp only [Option.bind_some]
 by_cases hp:rightP p
 case neg =>
  simp only [if_neg hp,if_pos hp]
  rfl
 have hR:=(Ycj p).1 hp
 have g0:RunOK 0 (MS.new p) cs0:=⟨Y9u hR (h1 hR),new_ss hR⟩
 simp only [hp,if_true,not_true_eq_false,if_false]
 rw [bif_f (by rfl)]
 by_cases hc:400 < C.length
 ·simp only [if_pos hc]
  rw [bif_t (decide_eq_true (by omega))]
 ·simp only [if_neg hc]
  have key:=Yc9 C (by omega) C.length 0 (MS.new p) cs0 [] (by omega) g0 (Nat.le_refl _)
  rw [bif_f (decide_eq_false (by omega)),show loop Z94 (C,(C.length:Int),0,(MS.new p).w cs0,[])=_ from key,List.drop_zero]
  cases rep C (MS.new p) <;> rfl
end Go.Proofs.YthdlpkdojipfhaaGreat.VX.VxM_M
set_option linter.unusedVariables false
set_option linter.unusedSimpArgs false
namespace Go.Proofs.YthdlpkdojipfhaaGreat.VX.VxM_M
open Go.Proofs
theorem Y56 {l:List Cho} {c:Cho} (h:c ∈ l):∃ i,l.findIdx? (fun x=>decide (c=x))=some i∧i < l.length∧l.getD i (0,0)=c:=by
 cases hf:l.findIdx? (fun x=>decide (c=x)) with
 | none =>
  rw [List.findIdx?_eq_none_iff] at hf
  have:=hf c h
  simp at this
 | some i =>
  have hf':=hf
  rw [List.findIdx?_eq_some_iff_getElem] at hf'
  obtain ⟨hi,e,_⟩:=hf'
  exact ⟨i,rfl,hi,by rw [Y6e hi]; exact (of_decide_eq_true e).symm⟩
theorem Yb7:∀ (k n:Nat) (s:MS) (cs:List Ch) (P:List Int),n+k ≤ 1000→RunOK n s cs→∃ w,rep (play k s P).C s=some w∧w.length=(play k s P).C.length ∧
  (∀ i,i < w.length→0 ≤ w.getD i 0∧w.getD i 0 < (play k s P).Wd.getD i 0∧(play k s P).Wd.getD i 0 ≤ 32) ∧
  ∀ P':List Int,w.length ≤ P'.length→(∀ i,i < w.length→P'.getD i 0 % (play k s P).Wd.getD i 0=w.getD i 0)→play k s P'=play k s P
 | 0,n,s,cs,P,hn,h=>⟨[],rfl,rfl,fun i hi=>absurd hi (Nat.not_lt_zero _),fun _ _ _=>rfl⟩
 | k+1,n,s,cs,P,hn,h=>by
  by_cases h0:s.st=0
  case neg =>
   rw [Yb8 _ s P h0]
   exact ⟨[],rfl,rfl,fun i hi=>absurd hi (Nat.not_lt_zero _),fun P' _ _=>Yb8 _ s P' h0⟩
  obtain ⟨p1,p2,p3⟩:=h.pick h0 P
  obtain ⟨cs1,g1,f1,f2⟩:=h.step (by omega) p3
  obtain ⟨i,i1,i2,i3⟩:=Y56 p3
  obtain ⟨w,w1,w2,w3,w4⟩:=Yb7 k (n+1) _ cs1 P.tail (by omega) g1
  rw [Yb4 k s P h0]
  refine ⟨(i:Int) :: w,?_,?_,fun j hj=>?_,fun P' hl hp=>?_⟩
  ·show rep (_ :: _) s=_
   unfold rep
   rw [i1]
   simp only
   rw [w1]
   rfl
  ·show w.length+1=_+1
   rw [w2]
  ·cases j with
   | zero =>
    show 0 ≤ (i:Int)∧(i:Int) < (s.chs.length:Int)∧(s.chs.length:Int) ≤ 32
    omega
   | succ j =>
    have hj:j+1 < w.length+1:=hj
    exact w3 j (by omega)
  ·cases P' with
   | nil=>have:w.length+1 ≤ 0:=hl; omega
   | cons a P' =>
    have ha:a % (s.chs.length:Int)=(i:Int):=hp 0 (by show 0 < w.length+1; omega)
    have hpk:pk (a :: P') s.chs.length=i:=by
     show (a % (s.chs.length:Int)).toNat=i
     rw [ha]; omega
    rw [Yb4 k s (a :: P') h0,hpk,i3]
    rw [show play k (s.step (s.chs.getD (pk P s.chs.length) (0,0))) (a :: P').tail=_ from w4 P' (by have:w.length+1 ≤ P'.length+1:=hl; omega) (fun j hj=>hp (j+1) (by show j+1 < w.length+1; omega))]
end Go.Proofs.YthdlpkdojipfhaaGreat.VX.VxM_M
set_option linter.unusedVariables false
set_option linter.unusedSimpArgs false
namespace Go.Proofs.YthdlpkdojipfhaaGreat.VX.VxM_M
open Go.Proofs
theorem Ydx {s:MS} (h:0 ≤ s.st∧s.st ≤ 4):0 ≤ s.settle.st∧s.settle.st ≤ 4:=by
 unfold MS.settle
 split
 ·exact h
 ·split
  ·exact ⟨by show (0:Int) ≤ 2; omega,by show (2:Int) ≤ 4; omega⟩
  ·exact ⟨by show (0:Int) ≤ 1; omega,by show (1:Int) ≤ 4; omega⟩
theorem Yex {s:MS} (h:0 ≤ s.st∧s.st ≤ 4) (c:Cho):0 ≤ (s.step c).st∧(s.step c).st ≤ 4:=by
 unfold MS.step
 refine Ydx ?_
 rcases act_st s.clear c with e | ⟨e,_⟩
 ·rw [e]; exact h
 ·omega
theorem Y9w (p:Pg):0 ≤ (MS.new p).st∧(MS.new p).st ≤ 4:=Ydx ⟨by show (0:Int) ≤ 0; omega,by show (0:Int) ≤ 4; omega⟩
theorem Yb3:∀ (k:Nat) (s:MS) (P:List Int),0 ≤ s.st∧s.st ≤ 4→(0 ≤ (play k s P).s.st∧(play k s P).s.st ≤ 4)∧((play k s P).s.st=0→(play k s P).C.length=k)
 | 0,s,P,h=>⟨h,fun _=>rfl⟩
 | k+1,s,P,h=>by
  by_cases h0:s.st=0
  ·have ih:=Yb3 k (s.step (s.chs.getD (pk P s.chs.length) (0,0))) P.tail (Yex h _)
   rw [Yb4 k s P h0]
   refine ⟨ih.1,fun e=>?_⟩
   show _+1=k+1
   rw [ih.2 e]
  ·rw [Yb8 _ s P h0]
   exact ⟨h,fun e=>absurd e h0⟩
noncomputable def backB (q:Pg) (n j:Int) (w Wd:List Int) (R:RT):Option Bool :=
 ((Z3s ())).bind fun r5 =>
 bif (Bool.not r5) then
  some false
 else
  ((loop Z8l (n,(j,(w,(Wd,(w,((((List.length w):Nat):Int),((0:Int),(q,(R,([]:List Int)))))))))))).bind fun r6 =>
  match r6 with
  | .inl y7 =>
   some y7
  | .inr y7 =>
   ((Z5n (y7.2.2.1,(y7.2.1,y7.1)))).bind fun r8 =>
   bif (fits ((List.length y7.2.2.2.2)+(List.length ((7:Int) :: ((Int.negSucc 0) :: ((3:Int) :: ([]:List Int))))))) then
    ((Z5n (y7.2.2.1,((y7.2.2.2.2++((7:Int) :: ((Int.negSucc 0) :: ((3:Int) :: ([]:List Int))))),y7.1)))).bind fun r9 =>
    bif (r8.2 == (0:Int)) then
     bif (r9.2 == (0:Int)) then
      ((Z43 (r8.1,y7.2.2.2.1))).bind fun q0 =>
      bif q0 then
       ((Z43 (r9.1,y7.2.2.2.1))).bind fun q1 =>
       some q1
      else
       some false
     else
      some false
    else
     some false
   else
    none
theorem five (j:Int):0 ≤ Int.tmod (IntKind.wrap .i64 (Int.tmod j 5+5)) 5∧Int.tmod (IntKind.wrap .i64 (Int.tmod j 5+5)) 5 < 5:=by
 have h1:Int.tmod j 5 < 5:=Int.tmod_lt_of_pos _ (by decide)
 have h2:-5 < Int.tmod j 5:=by simpa using Int.lt_tmod_of_pos j (show (0:Int) < 5 by decide)
 rw [wrapI (by omega) (by omega)]
 exact ⟨Int.tmod_nonneg _ (by omega),Int.tmod_lt_of_pos _ (by decide)⟩
theorem Y1q (n j:Int) (w Wd:List Int) (q:Pg) (R:RT) (hl:w.length ≤ 400) (hWd:Wd.length=w.length) (h:∀ i,i < w.length→0 ≤ w.getD i 0∧w.getD i 0 < Wd.getD i 0∧Wd.getD i 0 ≤ 32) :
  ∃ acc:List Int,acc.length=w.length∧(∀ i,i < w.length→acc.getD i 0 % Wd.getD i 0=w.getD i 0)∧loop Z8l (n,j,w,Wd,w,(w.length:Int),0,q,R,[])=some (.inr (n,w,q,R,acc)):=by
 have h5:=five j
 obtain ⟨t,ht⟩:∃ t,t=Int.tmod (IntKind.wrap .i64 (Int.tmod j 5+5)) 5:=⟨_,rfl⟩
 rw [← ht] at h5
 let f:Nat→Int:=fun i=>w.getD i 0+Wd.getD i 0 * t
 have key:=Y89 (f:=Z8l) w.length (fun i=>(n,j,w,Wd,w,(w.length:Int),(i:Int),q,R,(List.range i).map f)) (.inr (n,w,q,R,(List.range w.length).map f)) (fun i hi=>by
  have hz:getAt (0:Int) w (toN (i:Int))=w.getD i 0:=by rw [Y6b]; rfl
  have hz2:getAt (0:Int) Wd (toN (i:Int))=Wd.getD i 0:=by rw [Y6b]; rfl
  obtain ⟨a,b,c⟩:=h i hi
  have hm1:0 ≤ Wd.getD i 0 * t:=Int.mul_nonneg (by omega) h5.1
  have hm2:Wd.getD i 0 * t ≤ 32 * 5:=Int.mul_le_mul c (by omega) h5.1 (by omega)
  unfold Z8l
  simp only [hz,hz2,← ht]
  rw [bif_t (decide_eq_true (by omega)),bif_t (Y6u hi),bif_f (decide_eq_false (by omega)),bif_t (Y6u (by omega)),bif_f (decide_eq_false (by omega)),bif_t (Y6u (by omega)),bif_t (Y5k.2 (by simp; omega)),wrapI (n:=(i:Int)+1) (by omega) (by omega),wrapI (n:=Wd.getD i 0 * t) (by omega) (by omega),wrapI (n:=w.getD i 0+Wd.getD i 0 * t) (by omega) (by omega),List.range_succ,List.map_append]
  rfl) (by
  unfold Z8l
  simp only
  rw [bif_f (decide_eq_false (by omega))]) 0 (Nat.zero_le _)
 refine ⟨_,by simp,fun i hi=>?_,key⟩
 have:((List.range w.length).map f).getD i 0=f i:=by simp [List.getD,hi]
 rw [this]
 obtain ⟨a,b,c⟩:=h i hi
 show (w.getD i 0+Wd.getD i 0 * t) % Wd.getD i 0=_
 rw [Int.add_mul_emod_self_left,Int.emod_eq_of_lt a b]
theorem Y6d {l m:List Int} {i:Nat} (h:i < l.length):(l++m).getD i 0=l.getD i 0:=by simp [List.getD,List.getElem?_append_left h]
theorem Y1r (q:Pg) (hq:rightP q) (P:List Int) (n j:Int) (hn:1 ≤ n∧n ≤ 100) (w:List Int) (hw2:w.length=(play n.toNat (MS.new q) P).C.length)
  (hw3:∀ i,i < w.length→0 ≤ w.getD i 0∧w.getD i 0 < (play n.toNat (MS.new q) P).Wd.getD i 0∧(play n.toNat (MS.new q) P).Wd.getD i 0 ≤ 32)
  (hw4:∀ P':List Int,w.length ≤ P'.length→(∀ i,i < w.length→P'.getD i 0 % (play n.toNat (MS.new q) P).Wd.getD i 0=w.getD i 0)→play n.toNat (MS.new q) P'=play n.toNat (MS.new q) P) :
  backB q n j w (play n.toNat (MS.new q) P).Wd (runP q P n)=some true:=by
 have hR:=(Ycj q).1 hq
 have hsm:=Yck hR
 obtain ⟨cs,g0,_⟩:=Y9v hR
 have hl:=Yb5 n.toNat 0 (MS.new q) cs P (by omega) g0
 have hrun:∀ P':List Int,P'.length ≤ 4294967296→play n.toNat (MS.new q) P'=play n.toNat (MS.new q) P→Z5n (q,P',n)=some (runP q P n,0):=by
  intro P' h1 h2
  rw [run_x q hsm P' h1]
  unfold runF
  rw [if_neg (fun z=>z hq),if_neg (by omega)]
  unfold runP
  rw [h2]
 obtain ⟨acc,a1,a2,a3⟩:=Y1q n j w (play n.toNat (MS.new q) P).Wd q (runP q P n) (by omega) (by omega) hw3
 have ha:∀ x:List Int,x.length=3→play n.toNat (MS.new q) (acc++x)=play n.toNat (MS.new q) P:=fun x hx=>hw4 (acc++x) (by rw [List.length_append]; omega) (fun i hi=>by rw [Y6d (by omega)]; exact a2 i hi)
 have hw:play n.toNat (MS.new q) w=play n.toNat (MS.new q) P:=hw4 w (Nat.le_refl _) (fun i hi=>by
  obtain ⟨x,y,_⟩:=hw3 i hi
  exact Int.emod_eq_of_lt x y)
 unfold backB
 rw [Y14]
 simp only [Option.bind_some]
 rw [bif_f (by rfl),a3]
 simp only [Option.bind_some]
 rw [hrun w (by omega) hw]
 simp only [Option.bind_some]
 rw [bif_t (Y5k.2 (by show acc.length+3 ≤ _; omega)),hrun _ (by rw [List.length_append]; show acc.length+3 ≤ _; omega) (ha _ rfl)]
 simp only [Option.bind_some]
 rw [bif_t (by rfl),bif_t (by rfl),Yd8 _ (Ycw hR P n (by omega))]
 rfl
theorem runBack_law (p:Pg) (P:List Int) (x j:Int):F_plaitlaw13_RunBack (p,P,x,j)=some true:=by
 have hPl:(P.take 120).length ≤ 120:=by simp; omega
 have hc2:cut P (toN 0) (toN (Min.min ((P.length:Nat):Int) 120) - toN 0)=P.take 120:=cutm P 120
 unfold F_plaitlaw13_RunBack
 simp only
 rw [Y4x]
 simp only [Option.bind_some]
 have hsm:=Y4y p
 generalize fewP p=q at *
 have hn:=Y6p x
 generalize IntKind.wrap .i64 (1+Int.tmod (IntKind.wrap .i64 (Int.tmod x 100+100)) 100)=n at *
 rw [bif_t (sub3L.2 ⟨by omega,by omega,by omega⟩),hc2]
 generalize P.take 120=P at *
 rw [run_x q hsm P (by omega)]
 simp only [Option.bind_some]
 unfold runF
 by_cases hq:rightP q
 case neg =>
  simp only [if_pos hq]
  rw [bif_t (by rfl),Y14]
  simp only [Option.bind_some]
  rw [bif_t (by rfl),bif_t (by rfl),Yd9]
  rfl
 have hR:=(Ycj q).1 hq
 obtain ⟨cs,g0,_⟩:=Y9v hR
 have hl:=Yb5 n.toNat 0 (MS.new q) cs P (by omega) g0
 obtain ⟨w,w1,w2,w3,w4⟩:=Yb7 n.toNat 0 (MS.new q) cs P (by omega) g0
 have core:=Y1r q hq P n j hn w w2 w3 w4
 obtain ⟨e1,e2⟩:=Yb3 n.toNat (MS.new q) P (Y9w q)
 simp only [hq,not_true_eq_false,if_false,if_neg (show ¬ (n < 1 ∨ 400 < n) by omega)]
 rw [bif_f (by rfl),Yca q hsm]
 simp only [Option.bind_some]
 rw [Yg2 q hsm P (by omega)]
 have hrp:repF q (runP q P n).2.2=(w,0):=by
  unfold repF
  rw [if_neg (fun z=>z hq),if_neg (by show ¬ 400 < (play n.toNat (MS.new q) P).C.length; omega)]
  show (match rep (play n.toNat (MS.new q) P).C (MS.new q) with | some w=>(w,(0:Int)) | none=>([],4))=_
  rw [w1]
 simp only [hq,not_true_eq_false,if_false,if_neg (show ¬ (n < 1 ∨ 400 < n) by omega),Option.bind_some,hrp]
 have hCl:(runP q P n).2.2.length=w.length:=w2.symm
 rw [bif_f (by rfl),bif_f (by rfl),hCl,bif_f (by simp),hl.2.2,← w2,bif_f (by simp),bif_f (decide_eq_false (by omega))]
 have hend:(runP q P n).1 ≠ 0:=by
  show endP _ ≠ 0
  unfold endP
  split
  ·omega
  ·assumption
 rw [bif_f (beq_eq_false_iff_ne.2 hend)]
 by_cases h5:(runP q P n).1=5
 ·have hst:(play n.toNat (MS.new q) P).s.st=0:=by
   refine Classical.byContradiction fun z=>?_
   have:endP (play n.toNat (MS.new q) P)=5:=h5
   unfold endP at this
   rw [if_neg z] at this
   omega
  have:=e2 hst
  rw [bif_t (beq_iff_eq.2 h5),bif_f (show (((w.length:Nat):Int) != n)=false by simp; omega)]
  exact core
 ·rw [bif_f (beq_eq_false_iff_ne.2 h5)]
  exact core
end Go.Proofs.YthdlpkdojipfhaaGreat.VX.VxM_M

