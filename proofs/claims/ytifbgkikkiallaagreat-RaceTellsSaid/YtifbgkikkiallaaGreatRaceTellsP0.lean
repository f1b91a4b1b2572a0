/- Laid for the law RaceTells. -/
import Derived.Test.YtifbgkikkiallaaGreatRaceTellsE15
import Derived.Test.YtifbgkikkiallaaGreatRaceTellsE14
import Derived.Test.YtifbgkikkiallaaGreatRaceTellsE17
import Derived.Test.YtifbgkikkiallaaGreatRaceTellsF0
set_option linter.unusedVariables false
set_option linter.unusedSimpArgs false
namespace Go.Proofs.YtifbgkikkiallaaGreat.VX
theorem wrapI {n:Int} (h1:-9223372036854775808 <= n) (h2:n < 9223372036854775808):IntKind.wrap .i64 n=n:=by
 unfold IntKind.wrap;show (if (true && decide (n % 18446744073709551616 ≥ 9223372036854775808))=true then n % 18446744073709551616 - 18446744073709551616 else n % 18446744073709551616)=n;split
 ·rename_i h; simp at h; omega
 ·rename_i h; simp at h; omega
theorem Y7i {α:Type} (z:α):∀ (l:List α) (n:Nat),getAt z l n=l.getD n z
 | [],n=>by cases n <;> rfl
 | a :: l,0=>rfl
 | a :: l,n+1=>by
  show getAt z l n=_;rw[Y7i z l n]; rfl
theorem getAtL {α:Type} (z:α) {l:List α} {n:Nat} (h:n < l.length):getAt z l n=l[n]:=by rw[Y7i]; simp[List.getD,h]
theorem inbL {i:Int} {n:Nat}:inb i n=true ↔ 0 <= i/\i < n:=by unfold inb; simp
theorem Y86 {i n:Nat} (h:i < n):inb (i:Int) n=true:=by rw[inbL]; omega
theorem Yhe (i:Nat):toN (i:Int)=i:=rfl
theorem Y6q {n:Nat}:fits n=true ↔ n <= 4294967296:=by unfold fits; simp
theorem Yb2 {n c:Int}:mkOK n c=true ↔ 0 <= n/\n <= c/\c.toNat <= 4294967296:=by
 unfold mkOK toN; simp[Y6q]
theorem sub3L {l h:Int} {n:Nat}:sub3 l h n=true ↔ 0 <= l/\l <= h/\h <= n:=by unfold sub3; simp
theorem Ya3 {X Y:Type} {f:X->Option (X ⊕ Y)} (I:X->Prop) (Q:Y->Prop) (m:X->Nat) (h:∀ x,I x->(∃ x',f x=some (.inl x')/\I x'/\m x' < m x) \/ (∃ y,f x=some (.inr y)/\Q y)) :
  ∀ x,I x->∃ y,loop f x=some y/\Q y:=by
 have:∀ n x,m x <= n->I x->∃ y,loop f x=some y/\Q y:=by
  intro n;induction n with
  | zero =>
   intro x hm hI;rcases h x hI with ⟨x',_,_,h3⟩ | ⟨y,h1,h2⟩
   ·omega
   ·exact ⟨y,by rw[Y9z,h1],h2⟩
  | succ n ih =>
   intro x hm hI;rcases h x hI with ⟨x',h1,h2,h3⟩ | ⟨y,h1,h2⟩
   ·obtain ⟨y,q1,q2⟩:=ih x' (by omega) h2;exact ⟨y,by rw[Y9z,h1]; exact q1,q2⟩
   ·exact ⟨y,by rw[Y9z,h1],h2⟩
 intro x hI;exact this (m x) x (Nat.le_refl _) hI
theorem Y9y {X Y:Type} {f:X->Option (X ⊕ Y)} (n:Nat) (st:Nat->X) (y:Y) (h1:∀ k,k < n->f (st k)=some (.inl (st (k+1)))) (h2:f (st n)=some (.inr y)):∀ k,k <= n->loop f (st k)=some y:=by
 have:∀ d k,n - k=d->k <= n->loop f (st k)=some y:=by
  intro d;induction d with
  | zero =>
   intro k h hk;obtain rfl:k=n:=by omega
   rw[Y9z,h2]
  | succ d ih =>
   intro k h hk;rw[Y9z,h1 k (by omega)];exact ih (k+1) (by omega) (by omega)
 intro k hk;exact this _ k rfl hk
theorem Ya0 {X Y α:Type} {f:X->Option (X ⊕ Y)} (l:List α) (p:α->Bool) (st:Nat->X) (hit:Nat->Y) (miss:Y)
  (h1:∀ k (h:k < l.length),f (st k)=if p l[k] then some (.inr (hit k)) else some (.inl (st (k+1)))) (h2:f (st l.length)=some (.inr miss)) :
  loop f (st 0)=some (match l.findIdx? p with | some i=>hit i | none=>miss):=by
 have:∀ d k,l.length - k=d->k <= l.length->loop f (st k)=some (match (l.drop k).findIdx? p with | some i=>hit (k+i) | none=>miss):=by
  intro d;induction d with
  | zero =>
   intro k h hk;obtain rfl:k=l.length:=by omega
   rw[Y9z,h2,List.drop_length]; rfl
  | succ d ih =>
   intro k h hk;have hlt:k < l.length:=by omega
   rw[Y9z,h1 k hlt,List.drop_eq_getElem_cons hlt,List.findIdx?_cons];by_cases hp:p l[k]=true
   ·rw[if_pos hp,if_pos hp]; rfl
   ·rw[if_neg hp,if_neg hp];show loop f (st (k+1))=_;rw[ih (k+1) (by omega) (by omega)];cases (l.drop (k+1)).findIdx? p with
    | none=>rfl
    | some i=>simp only[Option.map_some]; congr 2; omega
 have h:=this _ 0 rfl (Nat.zero_le _);rw[h,List.drop_zero];cases l.findIdx? p with
 | none=>rfl
 | some i=>simp
theorem Ybm {κ α:Type} {eq:κ->κ->Bool} {x:κ} (u v:α):∀ (l:List (κ × α)),mset (mput eq x u l) (mpos eq x l) v=mput eq x v l
 | []=>rfl
 | p :: l=>by
  show mset (bif eq x p.1 then (x,u) :: l else p :: mput eq x u l) (bif eq x p.1 then 0 else mpos eq x l+1) v=(bif eq x p.1 then (x,v) :: l else p :: mput eq x v l)
  cases h:eq x p.1 with
  | true=>rfl
  | false =>
   simp only[cond_false];show p :: mset (mput eq x u l) (mpos eq x l) v=_;rw[Ybm u v l]
theorem Ybh {κ α:Type} {eq:κ->κ->Bool} {x:κ} (u:α):∀ (l:List (κ × α)),mpos eq x l < (mput eq x u l).length
 | []=>Nat.zero_lt_one
 | p :: l=>by
  show (bif eq x p.1 then 0 else mpos eq x l+1) < (bif eq x p.1 then (x,u) :: l else p :: mput eq x u l).length;cases h:eq x p.1 with
  | true=>simp
  | false =>
   have:=Ybh (eq:=eq) (x:=x) u l;simp only[cond_false,List.length_cons]; omega
theorem Ybj {κ α:Type} [DecidableEq κ] {eq:κ->κ->Bool} (he:∀ a b,eq a b=true ↔ a=b) {z:α} (x:κ) (u:α) (y:κ):∀ (l:List (κ × α)),mlook eq z y (mput eq x u l)=if y=x then u else mlook eq z y l
 | []=>by
  show (bif eq y x then u else z)=_;by_cases h:y=x
  ·rw[(he y x).2 h,if_pos h]; rfl
  ·rw[if_neg h];cases hb:eq y x with
   | true=>exact absurd ((he y x).1 hb) h
   | false=>rfl
 | p :: l=>by
  show mlook eq z y (bif eq x p.1 then (x,u) :: l else p :: mput eq x u l)=if y=x then u else (bif eq y p.1 then p.2 else mlook eq z y l)
  cases h:eq x p.1 with
  | true =>
   have hx:=(he _ _).1 h;show (bif eq y x then u else mlook eq z y l)=_;by_cases h2:y=x
   ·rw[(he y x).2 h2,if_pos h2]; rfl
   ·rw[if_neg h2,<- hx];cases hb:eq y x with
    | true=>exact absurd ((he y x).1 hb) h2
    | false=>rfl
  | false =>
   show (bif eq y p.1 then p.2 else mlook eq z y (mput eq x u l))=_;rw[Ybj he x u y l];cases hb:eq y p.1 with
   | false=>rfl
   | true =>
    have hy:=(he _ _).1 hb;have hne:¬ y=x:=fun e=>by rw[e] at hb; rw[hb] at h; cases h
    simp[hne]
theorem bif_t {α:Type} {b:Bool} {x y:α} (h:b=true):(bif b then x else y)=x:=by rw[h]; rfl
theorem bif_f {α:Type} {b:Bool} {x y:α} (h:b=false):(bif b then x else y)=y:=by rw[h]; rfl
theorem decE {p q:Prop} {i:Decidable p} {j:Decidable q} (h:p ↔ q):some (@decide p i)=some (@decide q j):=by
 by_cases hp:p
 ·rw[decide_eq_true hp,decide_eq_true (h.1 hp)]
 ·rw[decide_eq_false hp,decide_eq_false (fun hq=>hp (h.2 hq))]
theorem decF {p:Prop} {i:Decidable p} (h:¬ p):some false=some (@decide p i):=by rw[decide_eq_false h]
theorem bS9 {α β:Type _} (a:α) (f:α->Option β):(some a).bind f=f a:=rfl
theorem dF9 {p:Prop} [Decidable p]:¬p->decide p=false:=decide_eq_false
theorem dT9 {p:Prop} [Decidable p]:p->decide p=true:=decide_eq_true
end Go.Proofs.YtifbgkikkiallaaGreat.VX
namespace Go.Proofs.YtifbgkikkiallaaGreat.VX
theorem Y4y {α:Type} (s:List α) (n:Nat) (c:Int) (hc:c=n):cut s (toN 0) (toN (min ((s.length:Nat):Int) c) - toN 0)=s.take n:=by
 subst hc;unfold cut toN;simp only[List.drop_zero,Int.toNat_zero,Nat.sub_zero];rcases Nat.le_total s.length n with h | h
 ·rw[List.take_of_length_le (by omega),List.take_of_length_le h]
 ·congr 1; omega
theorem Ya1 {X Y:Type} {f:X->Option (X ⊕ Y)} (n:Nat) (st:Nat->X) (q:Nat->Option Y) (z:Y)
  (h1:∀ k,k < n->f (st k)=match q k with | none=>some (.inl (st (k+1))) | some y=>some (.inr y)) (h2:f (st n)=some (.inr z)) :
  loop f (st 0)=some (((List.range n).findSome? q).getD z):=by
 have:∀ d k,n - k=d->k <= n->loop f (st k)=some (((List.range' k (n - k)).findSome? q).getD z):=by
  intro d;induction d with
  | zero =>
   intro k h hk;obtain rfl:k=n:=by omega
   rw[Y9z,h2,Nat.sub_self]; rfl
  | succ d ih =>
   intro k h hk;rw[Y9z,h1 k (by omega),show n - k=(n - (k+1))+1 by omega,List.range'_succ,List.findSome?_cons];cases hq:q k with
   | none=>exact ih (k+1) (by omega) (by omega)
   | some y=>rfl
 rw[List.range_eq_range',this n 0 (by omega) (Nat.zero_le _),Nat.sub_zero]
end Go.Proofs.YtifbgkikkiallaaGreat.VX
namespace Go.Proofs.YtifbgkikkiallaaGreat.VX
noncomputable def tB (p:Prop):Bool:=@decide p (Classical.propDecidable p)
theorem tB_t {p:Prop} (h:p):tB p=true:=by unfold tB; exact @dT9 p (Classical.propDecidable p) h
theorem tB_f {p:Prop} (h:¬ p):tB p=false:=by unfold tB; exact @dF9 p (Classical.propDecidable p) h
theorem tB_eq {p q:Prop} (h:p ↔ q):tB p=tB q:=by rw[propext h]
theorem Yh3 {p:Prop}:tB p=true ↔ p:=by
 by_cases hp:p
 ·rw[tB_t hp]; simp[hp]
 ·rw[tB_f hp]; simp[hp]
theorem tB_dec {p:Prop} {i:Decidable p}:@decide p i=tB p:=by
 by_cases hp:p
 ·rw[tB_t hp,dT9 hp]
 ·rw[tB_f hp,dF9 hp]
theorem Yh0 (a b:Int):(a == b)=tB (a=b):=by
 by_cases h:a=b
 ·rw[tB_t h]; simp[h]
 ·rw[tB_f h]; simp[h]
theorem Yh1 (a b:Int):(a != b)=tB (¬ a=b):=by
 by_cases h:a=b
 ·rw[tB_f (fun q=>q h)]; simp[h]
 ·rw[tB_t h]; simp[h]
theorem tB_not (p:Prop):Bool.not (tB p)=tB (¬ p):=by
 by_cases h:p
 ·rw[tB_t h,tB_f (fun q=>q h)]; rfl
 ·rw[tB_f h,tB_t h]; rfl
theorem tB_inb (i:Int) (n:Nat):inb i n=tB (0 <= i/\i < n):=by
 by_cases h:0 <= i/\i < n
 ·rw[tB_t h]; exact inbL.2 h
 ·rw[tB_f h];cases hb:inb i n with
  | true=>exact absurd (inbL.1 hb) h
  | false=>rfl
theorem Yh2 (p q r:Prop):(bif tB p then tB q else tB r)=tB (p/\q \/ ¬ p/\r):=by
 by_cases h:p
 ·rw[tB_t h,cond_true]; exact tB_eq ⟨fun x=>.inl ⟨h,x⟩,fun x=>x.elim (·.2) (fun y=>absurd h y.1)⟩
 ·rw[tB_f h,cond_false]; exact tB_eq ⟨fun x=>.inr ⟨h,x⟩,fun x=>x.elim (fun y=>absurd y.1 h) (·.2)⟩
theorem tB_c2 (p q r:Prop):(bif tB p then some (tB q) else some (tB r))=some (tB (p/\q \/ ¬ p/\r)):=by
 rw[<- Yh2];cases tB p <;> rfl
theorem tB_cT (p q:Prop):(bif tB p then some true else some (tB q))=some (tB (p \/ q)):=by
 by_cases h:p
 ·rw[tB_t h,tB_t (p:=p \/ q) (.inl h)]; rfl
 ·rw[tB_f h,cond_false]; exact congrArg some (tB_eq ⟨.inr,fun x=>x.resolve_left h⟩)
theorem tB_cF (p q:Prop):(bif tB p then some false else some (tB q))=some (tB (¬ p/\q)):=by
 by_cases h:p
 ·rw[tB_t h,tB_f (p:=¬ p/\q) (fun x=>x.1 h)]; rfl
 ·rw[tB_f h,cond_false]; exact congrArg some (tB_eq ⟨fun x=>⟨h,x⟩,(·.2)⟩)
theorem tB_eF (p q:Prop):(bif tB p then some (tB q) else some false)=some (tB (p/\q)):=by
 by_cases h:p
 ·rw[tB_t h,cond_true]; exact congrArg some (tB_eq ⟨fun x=>⟨h,x⟩,(·.2)⟩)
 ·rw[tB_f h,tB_f (p:=p/\q) (fun x=>h x.1)]; rfl
theorem tB_tf (p:Prop):(bif tB p then some true else some false)=some (tB p):=by
 by_cases h:p
 ·rw[tB_t h]; rfl
 ·rw[tB_f h]; rfl
theorem tB_ft (p:Prop):(bif tB p then some false else some true)=some (tB (¬ p)):=by
 rw[<- tB_not];cases tB p <;> rfl
theorem Yg8 {p q:Prop} (h:p ↔ q):some (tB p)=some (tB q):=congrArg some (tB_eq h)
theorem iteP (p q r:Prop) [Decidable p]:(if p then q else r) ↔ (p/\q \/ ¬ p/\r):=by
 by_cases h:p <;> simp[h]
theorem neg1:(Int.negSucc 0)=(-1:Int):=rfl
end Go.Proofs.YtifbgkikkiallaaGreat.VX
namespace Go.Proofs.YtifbgkikkiallaaGreat.VX
open Go.Proofs
theorem Y63:∀ (a b:List Int),a.Pairwise (· < ·)->b.Pairwise (· < ·)->(∀ x,x ∈ a ↔ x ∈ b)->a=b
 | [],[],_,_,_=>rfl
 | [],y :: b,_,_,h=>absurd ((h y).2 List.mem_cons_self) (by simp)
 | x :: a,[],_,_,h=>absurd ((h x).1 List.mem_cons_self) (by simp)
 | x :: a,y :: b,ha,hb,h=>by
  have ha':=List.pairwise_cons.1 ha;have hb':=List.pairwise_cons.1 hb
  have hxy:x=y:=by
   rcases List.mem_cons.1 ((h x).1 List.mem_cons_self) with e | e
   ·exact e
   ·rcases List.mem_cons.1 ((h y).2 List.mem_cons_self) with e2 | e2
    ·exact e2.symm
    ·have:=hb'.1 x e; have:=ha'.1 y e2; omega
  subst hxy;rw[Y63 a b ha'.2 hb'.2 fun z=>?_];constructor
  ·intro hz;rcases List.mem_cons.1 ((h z).1 (List.mem_cons_of_mem _ hz)) with e | e
   ·have:=ha'.1 z hz; omega
   ·exact e
  ·intro hz;rcases List.mem_cons.1 ((h z).2 (List.mem_cons_of_mem _ hz)) with e | e
   ·have:=hb'.1 z hz; omega
   ·exact e
theorem Ygb (l:List Int) (x:Int):x ∈ sortI l ↔ x ∈ l:=by unfold sortI; simp
theorem Yg9 (l:List Int):(sortI l).Pairwise (· <= ·):=by
 unfold sortI;have:=List.pairwise_mergeSort (le:=fun x y:Int=>decide (x <= y)) (by intro a b c h1 h2; simp at *; omega) (by intro a b; simp; omega) l;simpa using this
theorem Ygf (l:List Int):Yge l 0 l.length=sortI l:=by
 unfold Yge cut over;rw[List.take_zero,List.drop_zero,List.take_length,List.take_of_length_le (by rw[Yga]; exact Nat.le_refl _),List.nil_append,Nat.zero_add,List.drop_length,List.append_nil]
theorem Y4h (l:List Int) (h:l.Pairwise (· <= ·)):∀ m,m <= l.length->(Go.Lib.compactUpTo l.toArray m).Pairwise (· < ·)/\∀ x,x ∈ Go.Lib.compactUpTo l.toArray m ↔ ∃ j,∃ hj:j < l.length,j < m/\l[j]=x
 | 0,_=>by
  refine ⟨by simp[Go.Lib.compactUpTo],fun x=>?_⟩;simp[Go.Lib.compactUpTo]
 | m+1,hm=>by
  obtain ⟨i1,i2⟩:=Y4h l h m (by omega)
  have hget:∀ j (hj:j < l.length),l.toArray[j]! = l[j]:=fun j hj=>by
   rw[getElem!_def,List.getElem?_toArray,List.getElem?_eq_getElem hj]
  have hle:∀ i j (hi:i < l.length) (hj:j < l.length),i <= j->l[i] <= l[j]:=fun i j hi hj hij=>by
   rcases Nat.lt_or_ge i j with q | q
   ·exact List.pairwise_iff_getElem.1 h i j hi hj q
   ·obtain rfl:i=j:=by omega
    exact Int.le_refl _
  rw[Go.Lib.compactUpTo_succ];by_cases hk:Go.Lib.keeps l.toArray m=true
  ·rw[if_pos hk,hget m (by omega)]
   have hk2:m=0 \/ l[m] ≠ l[m - 1]:=by
    unfold Go.Lib.keeps at hk;rcases Nat.eq_zero_or_pos m with e | e
    ·exact .inl e
    ·right;have:=hk;simp only[hget m (by omega),hget (m - 1) (by omega)] at this;intro q;simp[q] at this;omega
   refine ⟨?_,fun x=>?_⟩
   ·rw[List.pairwise_append];refine ⟨i1,List.pairwise_singleton _ _,fun x hx y hy=>?_⟩;obtain ⟨j,hj,hjm,rfl⟩:=(i2 x).1 hx;obtain rfl:=List.mem_singleton.1 hy;rcases hk2 with e | e
    ·omega
    ·have h1:=hle j (m - 1) hj (by omega) (by omega);have h2:=hle (m - 1) m (by omega) (by omega) (by omega);omega
   ·rw[List.mem_append,i2,List.mem_singleton];constructor
    ·rintro (⟨j,hj,hjm,e⟩ | e)
     ·exact ⟨j,hj,by omega,e⟩
     ·exact ⟨m,by omega,by omega,e.symm⟩
    ·rintro ⟨j,hj,hjm,e⟩;rcases Nat.lt_or_ge j m with q | q
     ·exact .inl ⟨j,hj,q,e⟩
     ·obtain rfl:j=m:=by omega
      exact .inr e.symm
  ·rw[if_neg hk,List.append_nil];refine ⟨i1,fun x=>?_⟩;rw[i2]
   have hk2:0 < m/\l[m]=l[m - 1]:=by
    unfold Go.Lib.keeps at hk;rcases Nat.eq_zero_or_pos m with e | e
    ·subst e; simp at hk
    ·refine ⟨e,?_⟩;simp only[hget m (by omega),hget (m - 1) (by omega)] at hk;simp at hk;exact hk.2
   constructor
   ·rintro ⟨j,hj,hjm,e⟩;exact ⟨j,hj,by omega,e⟩
   ·rintro ⟨j,hj,hjm,e⟩;rcases Nat.lt_or_ge j m with q | q
    ·exact ⟨j,hj,q,e⟩
    ·obtain rfl:j=m:=by omega
     exact ⟨j - 1,by omega,by omega,by rw[<- hk2.2]; exact e⟩
theorem Y4k (l b:List Int) (hb:b.Pairwise (· < ·)) (h:∀ x,x ∈ b ↔ x ∈ l):Y4c (Yge l 0 l.length)=b:=by
 rw[Ygf];have hs:=Y4h (sortI l) (Yg9 l) (sortI l).length (Nat.le_refl _);refine Y63 _ _ hs.1 hb fun x=>?_
 rw[show x ∈ Y4c (sortI l) ↔ _ from hs.2 x,h,<- Ygb l x,List.mem_iff_getElem];constructor
 ·rintro ⟨j,hj,_,e⟩; exact ⟨j,hj,e⟩
 ·rintro ⟨j,hj,e⟩; exact ⟨j,hj,hj,e⟩
end Go.Proofs.YtifbgkikkiallaaGreat.VX
namespace Go.Proofs.YtifbgkikkiallaaGreat.VX.VxZ_Z
abbrev Ev:=Int × (Int × (Int × (Int × Int)))
def zEv:Ev:=(0,0,0,0,0)
abbrev Ev.G (e:Ev):Int:=e.1
abbrev Ev.K (e:Ev):Int:=e.2.1
abbrev Ev.N (e:Ev):Int:=e.2.2.2.1
abbrev Ev.S (e:Ev):Int:=e.2.2.2.2
def cntE (l:List Ev) (k o:Int):Nat:=(l.filter fun e=>e.2.1 == k && e.2.2.1 == o).length
def cntT (l:List Ev) (k:Int):Nat:=(l.filter fun e=>e.2.1 == k).length
def lastE (g:Int):List Ev->Nat->Nat
 | [],_=>0
 | e :: l,n=>if lastE g l (n+1)=0 then (if e.1=g then n+1 else 0) else lastE g l (n+1)
def firstE (o:Int):List Ev->Int
 | []=>0
 | e :: l=>if e.2.1=13/\e.2.2.1=o then e.1+1 else firstE o l
theorem Y42 (l:List Ev) (e:Ev) (k o:Int):cntE (l++[e]) k o=cntE l k o+if e.2.1=k/\e.2.2.1=o then 1 else 0:=by
 unfold cntE;rw[List.filter_append,List.length_append];congr 1;by_cases h:e.2.1=k/\e.2.2.1=o
 ·rw[if_pos h,List.filter_cons_of_pos (by simpa using h)]; rfl
 ·rw[if_neg h,List.filter_cons_of_neg (by simpa using h)]; rfl
theorem Y47 (l:List Ev) (e:Ev) (k:Int):cntT (l++[e]) k=cntT l k+if e.2.1=k then 1 else 0:=by
 unfold cntT;rw[List.filter_append,List.length_append];congr 1;by_cases h:e.2.1=k
 ·rw[if_pos h,List.filter_cons_of_pos (by simpa using h)]; rfl
 ·rw[if_neg h,List.filter_cons_of_neg (by simpa using h)]; rfl
theorem Y44 (l:List Ev) (k o:Int):cntE l k o <= l.length:=List.length_filter_le _ _
theorem Y48 (l:List Ev) (k:Int):cntT l k <= l.length:=List.length_filter_le _ _
theorem Y97 (g:Int) (e:Ev):∀ (l:List Ev) (n:Nat),lastE g (l++[e]) n=if e.1=g then n+l.length+1 else lastE g l n
 | [],n=>by
  show (if (0:Nat)=0 then (if e.1=g then n+1 else 0) else 0)=_;rw[if_pos rfl]; rfl
 | a :: l,n=>by
  show (if lastE g (l++[e]) (n+1)=0 then (if a.1=g then n+1 else 0) else lastE g (l++[e]) (n+1))=_;rw[Y97 g e l (n+1)];by_cases h:e.1=g
  ·rw[if_pos h,if_pos h,if_neg (by omega)]; simp; omega
  ·rw[if_neg h,if_neg h]; rfl
theorem Y98 (g:Int):∀ (l:List Ev) (n:Nat),lastE g l n <= n+l.length
 | [],n=>Nat.zero_le _
 | a :: l,n=>by
  have:=Y98 g l (n+1);simp only[lastE,List.length_cons];split
  ·split <;> omega
  ·omega
theorem Y6m (o:Int) (a:Ev) (l:List Ev):firstE o (a :: l)=if a.2.1=13/\a.2.2.1=o then a.1+1 else firstE o l:=rfl
theorem Y6l (o:Int) (e:Ev):∀ l:List Ev,(∀ x ∈ l,0 <= x.1)->firstE o (l++[e])=if firstE o l=0 then (if e.2.1=13/\e.2.2.1=o then e.1+1 else 0) else firstE o l
 | [],_=>by
  show (if e.2.1=13/\e.2.2.1=o then e.1+1 else 0)=if (0:Int)=0 then _ else _
  rw[if_pos (c:=(0:Int)=0) rfl]
 | a :: l,hG=>by
  have h0:=hG a (List.mem_cons_self ..);rw[List.cons_append,Y6m,Y6m];by_cases h:a.2.1=13/\a.2.2.1=o
  ·rw[if_pos h,if_pos h,if_neg (by omega)]
  ·rw[if_neg h,if_neg h,Y6l o e l (fun x hx=>hG x (List.mem_cons_of_mem _ hx))]
end Go.Proofs.YtifbgkikkiallaaGreat.VX.VxZ_Z
namespace Go.Proofs.YtifbgkikkiallaaGreat.VX.VxZ_Z
def getE (l:List Ev) (s:Int):Ev:=l.getD s.toNat zEv
def begK (k:Int):Prop:=k=0 \/ k=3 \/ k=5 \/ k=6 \/ k=9 \/ k=11 \/ k=15
instance (k:Int):Decidable (begK k):=by unfold begK; infer_instance
def orgK (k:Int):Int:=if k=3 then 2 else if k=5 \/ k=6 then 4 else if k=9 then 8 else if k=11 then 10 else 13
def numK (k:Int):Prop:=k=3 \/ k=5
instance (k:Int):Decidable (numK k):=by unfold numK; infer_instance
def objK (caps:List Int) (k:Int):Int:=if 2 <= k/\k <= 7 then caps.length else if 10 <= k/\k <= 15 then 2 else if 8 <= k/\k <= 17 then 4 else 1
def capO (caps:List Int) (o:Int):Int:=caps.getD o.toNat 0
def shapeE (l:List Ev) (e:Ev):Prop:=0 <= e.1/\e.1 <= 7/\0 <= e.2.1/\e.2.1 <= 17/\0 <= e.2.2.2.1/\-1 <= e.2.2.2.2/\e.2.2.2.2 < l.length
def startE (l:List Ev) (e:Ev):Prop:=lastE e.1 l 0=0/\e.2.2.1=0/\e.2.2.2.1=0/\(if e.1=0 then e.2.2.2.2=-1 else 0 <= e.2.2.2.2/\(getE l e.2.2.2.2).2.1=1/\(getE l e.2.2.2.2).2.2.1=e.1)
def fromE (l:List Ev) (e:Ev):Prop:=if begK e.2.1 then 0 <= e.2.2.2.2/\e.2.2.2.2+1=lastE e.1 l 0/\((getE l e.2.2.2.2).2.1=orgK e.2.1/\(getE l e.2.2.2.2).2.2.1=e.2.2.1 \/ (getE l e.2.2.2.2).2.1=8/\e.2.1 <= 6) else e.2.2.2.2=-1
def ruleE (caps:List Int) (l:List Ev) (e:Ev):Prop :=
 (e.2.1=1->e.2.2.1=cntT l 0) /\
 (e.2.1=3->0 <= capO caps e.2.2.1/\cntE l 7 e.2.2.1=0/\e.2.2.2.1=cntE l 3 e.2.2.1/\e.2.2.2.1 <= cntE l 5 e.2.2.1+capO caps e.2.2.1) /\
 (e.2.1=5->0 <= capO caps e.2.2.1/\e.2.2.2.1=cntE l 5 e.2.2.1/\e.2.2.2.1 <= cntE l 3 e.2.2.1) /\
 (e.2.1=6->0 < cntE l 7 e.2.2.1/\cntE l 5 e.2.2.1=cntE l 3 e.2.2.1) /\
 (e.2.1=7->0 <= capO caps e.2.2.1/\cntE l 7 e.2.2.1=0) /\
 (e.2.1=11->cntE l 11 e.2.2.1=cntE l 12 e.2.2.1) /\
 (e.2.1=12->(cntE l 11 e.2.2.1:Int) - cntE l 12 e.2.2.1=1) /\
 (e.2.1=14->cntE l 14 e.2.2.1=0/\firstE e.2.2.1 l=e.1+1) /\
 (e.2.1=15->0 < cntE l 14 e.2.2.1)
def goodE (caps:List Int) (l:List Ev) (e:Ev):Prop :=
 shapeE l e/\if e.2.1=0 then startE l e else lastE e.1 l 0 ≠ 0/\(¬ numK e.2.1->e.2.2.2.1=0)/\(e.2.1 ≠ 1->0 <= e.2.2.1/\e.2.2.1 < objK caps e.2.1)/\fromE l e/\ruleE caps l e
def GoodL (caps:List Int) (l:List Ev):Prop:=∀ i (h:i < l.length),goodE caps (l.take i) l[i]
theorem Y7r {caps:List Int} {l:List Ev} (h:GoodL caps l):∀ x ∈ l,0 <= x.1:=by
 intro x hx;obtain ⟨i,hi,e⟩:=List.mem_iff_getElem.1 hx;have:=(h i hi).1.1;rw[e] at this; exact this
theorem Y49 {l:List Ev} {k o:Int} (h:0 < cntE l k o):∃ x ∈ l,x.2.1=k/\x.2.2.1=o:=by
 unfold cntE at h;obtain ⟨x,hx⟩:=List.exists_mem_of_length_pos h;have:=List.mem_filter.1 hx;exact ⟨x,this.1,by simpa using this.2⟩
theorem Y40 {caps:List Int} {l:List Ev} (h:GoodL caps l) {o:Int} (hc:0 < cntE l 7 o):0 <= capO caps o:=by
 obtain ⟨x,hx,h1,h2⟩:=Y49 hc;obtain ⟨i,hi,e⟩:=List.mem_iff_getElem.1 hx;have:=(h i hi).2;rw[e,if_neg (by rw[h1]; decide)] at this;have:=this.2.2.2.2.2.2.2.2.1 h1;rw[h2] at this;exact this.1
end Go.Proofs.YtifbgkikkiallaaGreat.VX.VxZ_Z
namespace Go.Proofs.YtifbgkikkiallaaGreat.VX.VxZ_Z
open Go.Proofs
abbrev St:=List Int × List Int × Int × List ((Int × Int) × Int) × List (Int × Int) × List (Int × Int)
def orgM:List (Int × Int):=[(3,2),(5,4),(6,4),(9,8),(11,10),(15,13)]
def lookC (k o:Int) (l:List ((Int × Int) × Int)):Int:=mlook (Ty.beq (.pair (.int .i64) (.int .i64))) (Ty.zero (.int .i64)) (k,o) l
def lookF (o:Int) (l:List (Int × Int)):Int:=mlook (Ty.beq (.int .i64)) (Ty.zero (.int .i64)) o l
structure JOK (caps:List Int) (l:List Ev) (s:St):Prop where
 caps:s.1=caps
 len:s.2.1.length=8
 last:∀ g:Nat,g < 8->s.2.1.getD g 0=(lastE (g:Int) l 0:Int)
 begun:s.2.2.1=(cntT l 0:Int)
 count:∀ k o,lookC k o s.2.2.2.1=(cntE l k o:Int)
 first:∀ o,lookF o s.2.2.2.2.1=firstE o l
 orig:s.2.2.2.2.2=orgM
theorem Ycc:Z52 ()=some orgM:=rfl
theorem zin_eq (n lo hi:Int):Z3y (n,lo,hi)=some (decide (lo <= n/\n <= hi)):=by
 unfold Z3y;simp only;by_cases h:n ≥ lo
 ·rw[bif_t (dT9 h)];by_cases h2:n <= hi
  ·rw[dT9 h2,dT9 (by omega)]
  ·rw[dF9 h2,dF9 (by omega)]
 ·rw[bif_f (dF9 h),dF9 (by omega)]
theorem n_eq (k:Int) (e:Ev) (s:St):Z46 (k,e,s)=some (lookC k e.2.2.1 s.2.2.2.1,s):=rfl
end Go.Proofs.YtifbgkikkiallaaGreat.VX.VxZ_Z
namespace Go.Proofs.YtifbgkikkiallaaGreat.VX.VxZ_Z
open Go.Proofs
theorem Y3h (caps:List Int) (o:Int) (h:0 <= o):getAt (0:Int) caps (toN o)=capO caps o:=by
 unfold capO; rw[Y7i]; rfl
theorem Yc8 (e:Ev) (s:St) (h0:0 <= e.2.2.1) (h1:e.2.2.1 < s.1.length):Z4b (e,s)=some (decide (0 <= capO s.1 e.2.2.1),s):=by
 unfold Z4b;simp only;rw[bif_t (inbL.2 ⟨h0,h1⟩),Y3h _ _ h0]
theorem Yc2 (k:Int) (s:St):Z49 (k,s)=some (objK s.1 k,s):=by
 unfold Z49 objK;simp only[zin_eq,bS9];by_cases h:2 <= k/\k <= 7
 ·rw[dT9 h,if_pos h]; rfl
 ·rw[dF9 h,if_neg h];by_cases h2:10 <= k/\k <= 15
  ·rw[dT9 h2,if_pos h2]; rfl
  ·rw[dF9 h2,if_neg h2];by_cases h3:8 <= k/\k <= 17
   ·rw[dT9 h3,if_pos h3]; rfl
   ·rw[dF9 h3,if_neg h3]; rfl
end Go.Proofs.YtifbgkikkiallaaGreat.VX.VxZ_Z
namespace Go.Proofs.YtifbgkikkiallaaGreat.VX.VxZ_Z
open Go.Proofs
theorem Y7l (l:List Ev) (s:Int):getAt ((0:Int),((0:Int),((0:Int),((0:Int),(0:Int))))) l (toN s)=getE l s:=by
 rw[Y7i]; rfl
theorem Y9d {caps:List Int} {l:List Ev} {s:St} (hJ:JOK caps l s) {g:Int} (h0:0 <= g) (h1:g <= 7):getAt (0:Int) s.2.1 (toN g)=(lastE g l 0:Int):=by
 rw[Y7i];have:=hJ.last g.toNat (by omega);rw[show ((g.toNat:Nat):Int)=g by omega] at this;exact this
theorem Y2q {caps:List Int} {l:List Ev} {s:St} (hJ:JOK caps l s) (e:Ev) (hs:shapeE l e):Z42 (l,e,s)=some (tB (startE l e),s):=by
 obtain ⟨g0,g1,k0,k1,n0,s0,s1⟩:=hs;unfold Z42;simp only;rw[bif_t (inbL.2 ⟨g0,by omega⟩),Y9d hJ g0 g1];simp only[Y7l];by_cases a:lastE e.1 l 0=0
 ·rw[bif_f (dF9 (by omega))];by_cases b:e.2.2.1=0
  ·rw[bif_f (by simpa using b)];by_cases c:e.2.2.2.1=0
   ·rw[bif_f (by simpa using c)];by_cases d:e.1=0
    ·rw[bif_t (by simpa using d)];by_cases f:e.2.2.2.2=-1
     ·rw[tB_t ⟨a,b,c,by rw[if_pos d]; exact f⟩,f]; rfl
     ·rw[tB_f (fun h=>f (by have:=h.2.2.2; rw[if_pos d] at this; exact this))];have:(e.2.2.2.2 == (-1:Int))=false:=by simpa using f
      show some (e.2.2.2.2 == (-1:Int),s)=_;rw[this]
    ·rw[bif_f (by simpa using d)];by_cases f:e.2.2.2.2=-1
     ·rw[bif_f (by rw[f]; rfl),tB_f (fun h=>by have:=h.2.2.2; rw[if_neg d] at this; omega)]
     ·rw[bif_t (by simpa using f),bif_t (inbL.2 ⟨by omega,by omega⟩)];by_cases g:(getE l e.2.2.2.2).2.1=1
      ·rw[bif_t (by simpa using g),bif_t (inbL.2 ⟨by omega,by omega⟩)];by_cases h:(getE l e.2.2.2.2).2.2.1=e.1
       ·rw[tB_t ⟨a,b,c,by rw[if_neg d]; exact ⟨by omega,g,h⟩⟩,h]; simp
       ·rw[tB_f (fun q=>h (by have:=q.2.2.2; rw[if_neg d] at this; exact this.2.2)),beq_eq_false_iff_ne.2 h]
      ·rw[bif_f (by simpa using g),tB_f (fun q=>g (by have:=q.2.2.2; rw[if_neg d] at this; exact this.2.1))]
   ·rw[bif_t (by simpa using c),tB_f (fun h=>c h.2.2.1)]
  ·rw[bif_t (by simpa using b),tB_f (fun h=>b h.2.1)]
 ·rw[bif_t (dT9 (by omega)),tB_f (fun h=>a h.1)]
end Go.Proofs.YtifbgkikkiallaaGreat.VX.VxZ_Z
namespace Go.Proofs.YtifbgkikkiallaaGreat.VX.VxZ_Z
open Go.Proofs
theorem Yca (k:Int):@mhas Int Int (Ty.beq (.int .i64)) k orgM=tB (k=3 \/ k=5 \/ k=6 \/ k=9 \/ k=11 \/ k=15):=by
 have hb:∀ a b:Int,Ty.beq (.int .i64) a b=(a == b):=fun _ _=>rfl
 by_cases h:k=3 \/ k=5 \/ k=6 \/ k=9 \/ k=11 \/ k=15
 ·rw[tB_t h];rcases h with rfl | rfl | rfl | rfl | rfl | rfl <;> rfl
 ·rw[tB_f h];simp only[not_or] at h;unfold orgM;simp only[mhas,hb,beq_eq_false_iff_ne.2 h.1,beq_eq_false_iff_ne.2 h.2.1,beq_eq_false_iff_ne.2 h.2.2.1,beq_eq_false_iff_ne.2 h.2.2.2.1,beq_eq_false_iff_ne.2 h.2.2.2.2.1,beq_eq_false_iff_ne.2 h.2.2.2.2.2,cond_false]
theorem Ycb (k:Int) (h:k=3 \/ k=5 \/ k=6 \/ k=9 \/ k=11 \/ k=15):@mlook Int Int (Ty.beq (.int .i64)) (Ty.zero (.int .i64)) k orgM=orgK k:=by
 rcases h with rfl | rfl | rfl | rfl | rfl | rfl <;> rfl
end Go.Proofs.YtifbgkikkiallaaGreat.VX.VxZ_Z
namespace Go.Proofs.YtifbgkikkiallaaGreat.VX.VxZ_Z
open Go.Proofs
theorem Y2p {caps:List Int} {l:List Ev} {s:St} (hJ:JOK caps l s) (e:Ev) (hs:shapeE l e) (hl:l.length < 30000) (hk:e.2.1 ≠ 0):Z40 (l,e,s)=some (tB (fromE l e),s):=by
 obtain ⟨g0,g1,k0,k1,n0,s0,s1⟩:=hs;have hbg:begK e.2.1 ↔ (e.2.1=3 \/ e.2.1=5 \/ e.2.1=6 \/ e.2.1=9 \/ e.2.1=11 \/ e.2.1=15):=by unfold begK; omega
 have hle:=Y98 e.1 l 0;unfold Z40;simp only;rw[hJ.orig,Yca,Y9d hJ g0 g1];simp only[Y7l];by_cases b:e.2.1=3 \/ e.2.1=5 \/ e.2.1=6 \/ e.2.1=9 \/ e.2.1=11 \/ e.2.1=15
 ·have hfe:∀ p:Prop,(fromE l e ↔ p)->tB (fromE l e)=tB p:=fun p h=>by rw[propext h]
  rw[tB_t b,bif_f (by rfl),Ycb _ b]
  have hF:fromE l e ↔ (0 <= e.2.2.2.2/\e.2.2.2.2+1=lastE e.1 l 0/\((getE l e.2.2.2.2).2.1=orgK e.2.1/\(getE l e.2.2.2.2).2.2.1=e.2.2.1 \/ (getE l e.2.2.2.2).2.1=8/\e.2.1 <= 6)):=by
   unfold fromE; rw[if_pos (hbg.2 b)]
  by_cases c:e.2.2.2.2=-1
  ·rw[bif_t (by rw[c]; rfl),tB_f (fun h=>by have:=(hF.1 h).1; omega),<- hJ.orig]
  ·rw[bif_f (by simpa using c),bif_t (inbL.2 ⟨g0,by omega⟩),wrapI (by omega) (by omega)];by_cases d:e.2.2.2.2=(lastE e.1 l 0:Int) - 1
   ·rw[bif_f (by simpa using d),bif_t (inbL.2 ⟨by omega,by omega⟩)];by_cases f:(getE l e.2.2.2.2).2.1=orgK e.2.1
    ·rw[bif_t (by simpa using f)];by_cases h:(getE l e.2.2.2.2).2.2.1=e.2.2.1
     ·rw[bif_t (by simpa using h),tB_t (hF.2 ⟨by omega,by omega,.inl ⟨f,h⟩⟩),<- hJ.orig]
     ·rw[bif_f (by simpa using h)];by_cases j:(getE l e.2.2.2.2).2.1=8
      ·rw[bif_t (by simpa using j)];by_cases q:e.2.1 <= 6
       ·rw[dT9 q,tB_t (hF.2 ⟨by omega,by omega,.inr ⟨j,q⟩⟩),<- hJ.orig]
       ·rw[dF9 q,tB_f (fun z=>(hF.1 z).2.2.elim (fun u=>h u.2) (fun u=>q u.2)),<- hJ.orig]
      ·rw[bif_f (by simpa using j),tB_f (fun z=>(hF.1 z).2.2.elim (fun u=>h u.2) (fun u=>j u.1)),<- hJ.orig]
    ·rw[bif_f (by simpa using f)];by_cases j:(getE l e.2.2.2.2).2.1=8
     ·rw[bif_t (by simpa using j)];by_cases q:e.2.1 <= 6
      ·rw[dT9 q,tB_t (hF.2 ⟨by omega,by omega,.inr ⟨j,q⟩⟩),<- hJ.orig]
      ·rw[dF9 q,tB_f (fun z=>(hF.1 z).2.2.elim (fun u=>f u.1) (fun u=>q u.2)),<- hJ.orig]
     ·rw[bif_f (by simpa using j),tB_f (fun z=>(hF.1 z).2.2.elim (fun u=>f u.1) (fun u=>j u.1)),<- hJ.orig]
   ·rw[bif_t (by simpa using d),tB_f (fun h=>d (by have:=(hF.1 h).2.1; omega)),<- hJ.orig]
 ·rw[tB_f b,bif_t (by rfl),<- hJ.orig];have hF:fromE l e ↔ e.2.2.2.2=-1:=by unfold fromE; rw[if_neg (fun h=>b (hbg.1 h))]
  by_cases c:e.2.2.2.2=-1
  ·rw[tB_t (hF.2 c),c]; rfl
  ·rw[tB_f (fun h=>c (hF.1 h))];have:(e.2.2.2.2 == (-1:Int))=false:=by simpa using c
   show some (e.2.2.2.2 == (-1:Int),s)=_;rw[this]
end Go.Proofs.YtifbgkikkiallaaGreat.VX.VxZ_Z
namespace Go.Proofs.YtifbgkikkiallaaGreat.VX.VxZ_Z
open Go.Proofs
def ruleK (k:Int) (caps:List Int) (l:List Ev) (e:Ev):Prop:=match k with
 | 1=>e.2.2.1=cntT l 0
 | 3=>0 <= capO caps e.2.2.1/\cntE l 7 e.2.2.1=0/\e.2.2.2.1=cntE l 3 e.2.2.1/\e.2.2.2.1 <= cntE l 5 e.2.2.1+capO caps e.2.2.1
 | 5=>0 <= capO caps e.2.2.1/\e.2.2.2.1=cntE l 5 e.2.2.1/\e.2.2.2.1 <= cntE l 3 e.2.2.1
 | 6=>0 < cntE l 7 e.2.2.1/\cntE l 5 e.2.2.1=cntE l 3 e.2.2.1
 | 7=>0 <= capO caps e.2.2.1/\cntE l 7 e.2.2.1=0
 | 11=>cntE l 11 e.2.2.1=cntE l 12 e.2.2.1
 | 12=>(cntE l 11 e.2.2.1:Int) - cntE l 12 e.2.2.1=1
 | 14=>cntE l 14 e.2.2.1=0/\firstE e.2.2.1 l=e.1+1
 | 15=>0 < cntE l 14 e.2.2.1
 | _=>True
theorem Yeu {caps:List Int} {l:List Ev} {s:St} (hJ:JOK caps l s) (e:Ev):Z4k (e,s)=some (tB (ruleK 1 caps l e),s):=by
 unfold Z4k;simp only;rw[hJ.begun];by_cases h:e.2.2.1=(cntT l 0:Int)
 ·rw[tB_t (show ruleK 1 caps l e from h),h,<- hJ.begun]; simp
 ·rw[tB_f (show ¬ ruleK 1 caps l e from h),beq_eq_false_iff_ne.2 h,<- hJ.begun]
theorem Yet {caps:List Int} {l:List Ev} {s:St} (hJ:JOK caps l s) (e:Ev) (hl:l.length < 30000):Z4g (e,s)=some ((cntE l 11 e.2.2.1:Int) - cntE l 12 e.2.2.1,s):=by
 have a:=Y44 l 11 e.2.2.1;have b:=Y44 l 12 e.2.2.1;unfold Z4g;simp only[n_eq,bS9,hJ.count];rw[wrapI (by omega) (by omega)]
end Go.Proofs.YtifbgkikkiallaaGreat.VX.VxZ_Z
namespace Go.Proofs.YtifbgkikkiallaaGreat.VX.VxZ_Z
open Go.Proofs
theorem Y3i {caps:List Int} (h:∀ n ∈ caps,-1 <= n/\n <= 3) (o:Int):-1 <= capO caps o/\capO caps o <= 3:=by
 unfold capO;by_cases hl:o.toNat < caps.length
 ·rw[show caps.getD o.toNat 0=caps[o.toNat] by simp[List.getD,hl]];exact h _ (List.getElem_mem hl)
 ·rw[show caps.getD o.toNat 0=0 by simp[List.getD,hl]]; omega
theorem Yev {caps:List Int} {l:List Ev} {s:St} (hJ:JOK caps l s) (e:Ev) (hl:l.length < 30000) (hc:∀ n ∈ caps,-1 <= n/\n <= 3) (h0:0 <= e.2.2.1) (h1:e.2.2.1 < caps.length):Z4n (e,s)=some (tB (ruleK 3 caps l e),s):=by
 have a:=Y44 l 5 e.2.2.1;have b:=Y3i hc e.2.2.1;have hR:ruleK 3 caps l e ↔ (0 <= capO caps e.2.2.1/\cntE l 7 e.2.2.1=0/\e.2.2.2.1=cntE l 3 e.2.2.1/\e.2.2.2.1 <= cntE l 5 e.2.2.1+capO caps e.2.2.1):=Iff.rfl;unfold Z4n;simp only;rw[Yc8 e s h0 (by rw[hJ.caps]; exact h1)];simp only[n_eq,bS9,hJ.count,Y3h _ _ h0,hJ.caps];by_cases c1:0 <= capO caps e.2.2.1
 ·rw[bif_t (dT9 c1)];by_cases c2:cntE l 7 e.2.2.1=0
  ·rw[bif_t (by rw[c2]; rfl)];by_cases c3:e.2.2.2.1=cntE l 3 e.2.2.1
   ·rw[bif_t (by simpa using c3),bif_t (inbL.2 ⟨h0,h1⟩),wrapI (by omega) (by omega)];by_cases c4:e.2.2.2.1 <= cntE l 5 e.2.2.1+capO caps e.2.2.1
    ·rw[dT9 c4,tB_t (hR.2 ⟨c1,c2,c3,c4⟩),<- hJ.caps]
    ·rw[dF9 c4,tB_f (fun h=>c4 (hR.1 h).2.2.2),<- hJ.caps]
   ·rw[bif_f (by simpa using c3),tB_f (fun h=>c3 (hR.1 h).2.2.1),<- hJ.caps]
  ·rw[bif_f (by simp; omega),tB_f (fun h=>c2 (hR.1 h).2.1),<- hJ.caps]
 ·rw[bif_f (dF9 c1),tB_f (fun h=>c1 (hR.1 h).1),<- hJ.caps]
end Go.Proofs.YtifbgkikkiallaaGreat.VX.VxZ_Z
namespace Go.Proofs.YtifbgkikkiallaaGreat.VX.VxZ_Z
open Go.Proofs
theorem Yew {caps:List Int} {l:List Ev} {s:St} (hJ:JOK caps l s) (e:Ev) (h0:0 <= e.2.2.1) (h1:e.2.2.1 < caps.length):Z4p (e,s)=some (tB (ruleK 5 caps l e),s):=by
 have hR:ruleK 5 caps l e ↔ (0 <= capO caps e.2.2.1/\e.2.2.2.1=cntE l 5 e.2.2.1/\e.2.2.2.1 <= cntE l 3 e.2.2.1):=Iff.rfl;unfold Z4p;simp only;rw[Yc8 e s h0 (by rw[hJ.caps]; exact h1)];simp only[n_eq,bS9,hJ.count,hJ.caps];by_cases c1:0 <= capO caps e.2.2.1
 ·rw[bif_t (dT9 c1)];by_cases c2:e.2.2.2.1=cntE l 5 e.2.2.1
  ·rw[bif_t (by simpa using c2)];by_cases c3:e.2.2.2.1 <= cntE l 3 e.2.2.1
   ·rw[dT9 c3,tB_t (hR.2 ⟨c1,c2,c3⟩),<- hJ.caps]
   ·rw[dF9 c3,tB_f (fun h=>c3 (hR.1 h).2.2),<- hJ.caps]
  ·rw[bif_f (by simpa using c2),tB_f (fun h=>c2 (hR.1 h).2.1),<- hJ.caps]
 ·rw[bif_f (dF9 c1),tB_f (fun h=>c1 (hR.1 h).1),<- hJ.caps]
theorem Yex {caps:List Int} {l:List Ev} {s:St} (hJ:JOK caps l s) (e:Ev):Z4r (e,s)=some (tB (ruleK 6 caps l e),s):=by
 have hR:ruleK 6 caps l e ↔ (0 < cntE l 7 e.2.2.1/\cntE l 5 e.2.2.1=cntE l 3 e.2.2.1):=Iff.rfl;unfold Z4r;simp only[n_eq,bS9,hJ.count];by_cases c1:0 < cntE l 7 e.2.2.1
 ·rw[bif_t (dT9 (by omega))];by_cases c2:cntE l 5 e.2.2.1=cntE l 3 e.2.2.1
  ·rw[tB_t (hR.2 ⟨c1,c2⟩),c2]; simp
  ·rw[tB_f (fun h=>c2 (hR.1 h).2),beq_eq_false_iff_ne.2 (by omega)]
 ·rw[bif_f (dF9 (by omega)),tB_f (fun h=>c1 (hR.1 h).1)]
theorem Yey {caps:List Int} {l:List Ev} {s:St} (hJ:JOK caps l s) (e:Ev) (h0:0 <= e.2.2.1) (h1:e.2.2.1 < caps.length):Z4t (e,s)=some (tB (ruleK 7 caps l e),s):=by
 have hR:ruleK 7 caps l e ↔ (0 <= capO caps e.2.2.1/\cntE l 7 e.2.2.1=0):=Iff.rfl;unfold Z4t;simp only;rw[Yc8 e s h0 (by rw[hJ.caps]; exact h1)];simp only[n_eq,bS9,hJ.count,hJ.caps];by_cases c1:0 <= capO caps e.2.2.1
 ·rw[bif_t (dT9 c1)];by_cases c2:cntE l 7 e.2.2.1=0
  ·rw[tB_t (hR.2 ⟨c1,c2⟩),c2,<- hJ.caps]; rfl
  ·rw[tB_f (fun h=>c2 (hR.1 h).2),beq_eq_false_iff_ne.2 (by omega),<- hJ.caps]
 ·rw[bif_f (dF9 c1),tB_f (fun h=>c1 (hR.1 h).1),<- hJ.caps]
end Go.Proofs.YtifbgkikkiallaaGreat.VX.VxZ_Z
namespace Go.Proofs.YtifbgkikkiallaaGreat.VX.VxZ_Z
open Go.Proofs
theorem Yez {caps:List Int} {l:List Ev} {s:St} (hJ:JOK caps l s) (e:Ev) (hl:l.length < 30000):Z4v (e,s)=some (tB (ruleK 11 caps l e),s):=by
 have hR:ruleK 11 caps l e ↔ cntE l 11 e.2.2.1=cntE l 12 e.2.2.1:=Iff.rfl;unfold Z4v;simp only;rw[Yet hJ e hl];simp only[bS9];by_cases c:cntE l 11 e.2.2.1=cntE l 12 e.2.2.1
 ·rw[tB_t (hR.2 c),c,Int.sub_self]; rfl
 ·rw[tB_f (fun h=>c (hR.1 h)),beq_eq_false_iff_ne.2 (by omega)]
theorem Yf0 {caps:List Int} {l:List Ev} {s:St} (hJ:JOK caps l s) (e:Ev) (hl:l.length < 30000):Z4x (e,s)=some (tB (ruleK 12 caps l e),s):=by
 have hR:ruleK 12 caps l e ↔ (cntE l 11 e.2.2.1:Int) - cntE l 12 e.2.2.1=1:=Iff.rfl;unfold Z4x;simp only;rw[Yet hJ e hl];simp only[bS9];by_cases c:(cntE l 11 e.2.2.1:Int) - cntE l 12 e.2.2.1=1
 ·rw[tB_t (hR.2 c),c]; rfl
 ·rw[tB_f (fun h=>c (hR.1 h)),beq_eq_false_iff_ne.2 c]
theorem Yes {caps:List Int} {l:List Ev} {s:St} (hJ:JOK caps l s) (e:Ev):Z4h (e,s)=some (tB (ruleK 15 caps l e),s):=by
 have hR:ruleK 15 caps l e ↔ 0 < cntE l 14 e.2.2.1:=Iff.rfl;unfold Z4h;simp only[n_eq,bS9,hJ.count];by_cases c:0 < cntE l 14 e.2.2.1
 ·rw[tB_t (hR.2 c),dT9 (by omega)]
 ·rw[tB_f (fun h=>c (hR.1 h)),dF9 (by omega)]
end Go.Proofs.YtifbgkikkiallaaGreat.VX.VxZ_Z
namespace Go.Proofs.YtifbgkikkiallaaGreat.VX.VxZ_Z
open Go.Proofs
theorem Yf1 {caps:List Int} {l:List Ev} {s:St} (hJ:JOK caps l s) (e:Ev) (g0:0 <= e.1) (g1:e.1 <= 7):Z4z (e,s)=some (tB (ruleK 14 caps l e),s):=by
 have hR:ruleK 14 caps l e ↔ (cntE l 14 e.2.2.1=0/\firstE e.2.2.1 l=e.1+1):=Iff.rfl;have hf:@mlook Int Int (Ty.beq (.int .i64)) (Ty.zero (.int .i64)) e.2.2.1 s.2.2.2.2.1=firstE e.2.2.1 l:=hJ.first e.2.2.1
 unfold Z4z;simp only[n_eq,bS9,hJ.count];by_cases c1:cntE l 14 e.2.2.1=0
 ·rw[bif_t (by rw[c1]; rfl),hf,wrapI (by omega) (by omega)];by_cases c2:firstE e.2.2.1 l=e.1+1
  ·rw[tB_t (hR.2 ⟨c1,c2⟩),c2]; simp
  ·rw[tB_f (fun h=>c2 (hR.1 h).2),beq_eq_false_iff_ne.2 c2]
 ·rw[bif_f (by simp; omega),tB_f (fun h=>c1 (hR.1 h).1)]
end Go.Proofs.YtifbgkikkiallaaGreat.VX.VxZ_Z
namespace Go.Proofs.YtifbgkikkiallaaGreat.VX.VxZ_Z
open Go.Proofs
theorem Yer (caps:List Int) (l:List Ev) (e:Ev):ruleE caps l e ↔ ruleK e.2.1 caps l e:=by
 unfold ruleE;generalize hk:e.2.1=k;constructor
 ·rintro ⟨a1,a3,a5,a6,a7,a11,a12,a14,a15⟩;unfold ruleK;split
  ·exact a1 rfl
  ·exact a3 rfl
  ·exact a5 rfl
  ·exact a6 rfl
  ·exact a7 rfl
  ·exact a11 rfl
  ·exact a12 rfl
  ·exact a14 rfl
  ·exact a15 rfl
  ·trivial
 ·intro h;refine ⟨?_,?_,?_,?_,?_,?_,?_,?_,?_⟩ <;> (intro q; rw[q] at h; exact h)
end Go.Proofs.YtifbgkikkiallaaGreat.VX.VxZ_Z
namespace Go.Proofs.YtifbgkikkiallaaGreat.VX.VxZ_Z
open Go.Proofs
noncomputable def tailT (e:Ev) (s:St):Option (Bool × St) :=
 bif eqI e.2.1 1 then (Z4k (e,s)).bind fun r=>some (r.1,r.2.1,r.2.2.1,r.2.2.2.1,r.2.2.2.2.1,r.2.2.2.2.2.1,r.2.2.2.2.2.2)
 else bif eqI e.2.1 3 then (Z4n (e,s)).bind fun r=>some (r.1,r.2.1,r.2.2.1,r.2.2.2.1,r.2.2.2.2.1,r.2.2.2.2.2.1,r.2.2.2.2.2.2)
 else bif eqI e.2.1 5 then (Z4p (e,s)).bind fun r=>some (r.1,r.2.1,r.2.2.1,r.2.2.2.1,r.2.2.2.2.1,r.2.2.2.2.2.1,r.2.2.2.2.2.2)
 else bif eqI e.2.1 6 then (Z4r (e,s)).bind fun r=>some (r.1,r.2.1,r.2.2.1,r.2.2.2.1,r.2.2.2.2.1,r.2.2.2.2.2.1,r.2.2.2.2.2.2)
 else bif eqI e.2.1 7 then (Z4t (e,s)).bind fun r=>some (r.1,r.2.1,r.2.2.1,r.2.2.2.1,r.2.2.2.2.1,r.2.2.2.2.2.1,r.2.2.2.2.2.2)
 else bif eqI e.2.1 11 then (Z4v (e,s)).bind fun r=>some (r.1,r.2.1,r.2.2.1,r.2.2.2.1,r.2.2.2.2.1,r.2.2.2.2.2.1,r.2.2.2.2.2.2)
 else bif eqI e.2.1 12 then (Z4x (e,s)).bind fun r=>some (r.1,r.2.1,r.2.2.1,r.2.2.2.1,r.2.2.2.2.1,r.2.2.2.2.2.1,r.2.2.2.2.2.2)
 else bif eqI e.2.1 14 then (Z4z (e,s)).bind fun r=>some (r.1,r.2.1,r.2.2.1,r.2.2.2.1,r.2.2.2.2.1,r.2.2.2.2.2.1,r.2.2.2.2.2.2)
 else bif eqI e.2.1 15 then (Z4h (e,s)).bind fun r=>some (r.1,r.2.1,r.2.2.1,r.2.2.2.1,r.2.2.2.2.1,r.2.2.2.2.2.1,r.2.2.2.2.2.2)
 else some (true,s.1,s.2.1,s.2.2.1,s.2.2.2.1,s.2.2.2.2.1,s.2.2.2.2.2)
theorem eqI_t {a b:Int} (h:a=b):eqI a b=true:=by unfold eqI; simpa using h
theorem eqI_f {a b:Int} (h:a ≠ b):eqI a b=false:=by unfold eqI; simpa using h
theorem Yh4 {caps:List Int} {l:List Ev} {s:St} (hJ:JOK caps l s) (e:Ev) (hl:l.length < 30000) (hc:∀ n ∈ caps,-1 <= n/\n <= 3) (hs:shapeE l e) (ho:e.2.1 ≠ 1->0 <= e.2.2.1/\e.2.2.1 < objK caps e.2.1):tailT e s=some (tB (ruleE caps l e),s):=by
 obtain ⟨g0,g1,k0,k1,n0,s0,s1⟩:=hs;rw[propext (Yer caps l e)]
 have hch:2 <= e.2.1/\e.2.1 <= 7->0 <= e.2.2.1/\e.2.2.1 < caps.length:=fun h=>by
  have:=ho (by omega);unfold objK at this;rw[if_pos h] at this; exact this
 unfold tailT;by_cases c1:e.2.1=1
 ·rw[bif_t (eqI_t c1),Yeu hJ,c1]; rfl
 rw[bif_f (eqI_f c1)];by_cases c3:e.2.1=3
 ·have:=hch (by omega);rw[bif_t (eqI_t c3),Yev hJ e hl hc this.1 this.2,c3]; rfl
 rw[bif_f (eqI_f c3)];by_cases c5:e.2.1=5
 ·have:=hch (by omega);rw[bif_t (eqI_t c5),Yew hJ e this.1 this.2,c5]; rfl
 rw[bif_f (eqI_f c5)];by_cases c6:e.2.1=6
 ·rw[bif_t (eqI_t c6),Yex hJ e,c6]; rfl
 rw[bif_f (eqI_f c6)];by_cases c7:e.2.1=7
 ·have:=hch (by omega);rw[bif_t (eqI_t c7),Yey hJ e this.1 this.2,c7]; rfl
 rw[bif_f (eqI_f c7)];by_cases c11:e.2.1=11
 ·rw[bif_t (eqI_t c11),Yez hJ e hl,c11]; rfl
 rw[bif_f (eqI_f c11)];by_cases c12:e.2.1=12
 ·rw[bif_t (eqI_t c12),Yf0 hJ e hl,c12]; rfl
 rw[bif_f (eqI_f c12)];by_cases c14:e.2.1=14
 ·rw[bif_t (eqI_t c14),Yf1 hJ e g0 g1,c14]; rfl
 rw[bif_f (eqI_f c14)];by_cases c15:e.2.1=15
 ·rw[bif_t (eqI_t c15),Yes hJ e,c15]; rfl
 rw[bif_f (eqI_f c15),tB_t];generalize e.2.1=k at *;unfold ruleK;split <;> first | contradiction | trivial
end Go.Proofs.YtifbgkikkiallaaGreat.VX.VxZ_Z
namespace Go.Proofs.YtifbgkikkiallaaGreat.VX.VxZ_Z
open Go.Proofs
theorem Yi0 {caps:List Int} {l:List Ev} {s:St} (hJ:JOK caps l s) (e:Ev) (hl:l.length < 30000) (hc:∀ n ∈ caps,-1 <= n/\n <= 3) (hcl:caps.length <= 4):Z4d (l,e,s)=some (tB (goodE caps l e),s):=by
 obtain ⟨s1,s2,s3,s4,s5,s6⟩:=s;have hcaps:s1=caps:=hJ.caps;subst hcaps;unfold Z4d;simp only[zin_eq,bS9,Yc2];rw[wrapI (n:=(l.length:Int) - 1) (by omega) (by omega)];have hg:∀ b:Prop,(goodE s1 l e ↔ b)->tB (goodE s1 l e)=tB b:=fun b h=>by rw[propext h]
 by_cases a1:0 <= e.1/\e.1 <= 7
 case neg=>rw[dF9 a1,bif_t (by rfl),tB_f (fun h=>a1 ⟨h.1.1,h.1.2.1⟩)]
 rw[dT9 a1,bif_f (by rfl)];by_cases a2:0 <= e.2.1/\e.2.1 <= 17
 case neg=>rw[dF9 a2,bif_t (by rfl),tB_f (fun h=>a2 ⟨h.1.2.2.1,h.1.2.2.2.1⟩)]
 rw[dT9 a2,bif_f (by rfl)];by_cases a3:e.2.2.2.1 < 0
 ·rw[bif_t (dT9 a3),tB_f (fun h=>by have:=h.1.2.2.2.2.1; omega)]
 rw[bif_f (dF9 a3)];by_cases a4:(-1:Int) <= e.2.2.2.2/\e.2.2.2.2 <= (l.length:Int) - 1
 case neg=>
  show (bif !(decide ((-1:Int) <= e.2.2.2.2/\e.2.2.2.2 <= (l.length:Int) - 1)) then _ else _)=_;rw[dF9 a4,bif_t (by rfl),tB_f (fun h=>a4 ⟨h.1.2.2.2.2.2.1,by have:=h.1.2.2.2.2.2.2; omega⟩)]
 show (bif !(decide ((-1:Int) <= e.2.2.2.2/\e.2.2.2.2 <= (l.length:Int) - 1)) then _ else _)=_;rw[dT9 a4,bif_f (by rfl)];have hs:shapeE l e:=⟨a1.1,a1.2,a2.1,a2.2,by omega,a4.1,by omega⟩
 by_cases k0:e.2.1=0
 ·rw[bif_t (by simpa using k0),Y2q hJ e hs];have:goodE s1 l e ↔ startE l e:=by unfold goodE; rw[if_pos k0]; exact ⟨fun h=>h.2,fun h=>⟨hs,h⟩⟩
  rw[hg _ this]; rfl
 rw[bif_f (by simpa using k0)]
 have hG:goodE s1 l e ↔ (lastE e.1 l 0 ≠ 0/\(¬ numK e.2.1->e.2.2.2.1=0)/\(e.2.1 ≠ 1->0 <= e.2.2.1/\e.2.2.1 < objK s1 e.2.1)/\fromE l e/\ruleE s1 l e):=by
  unfold goodE; rw[if_neg k0]; exact ⟨fun h=>h.2,fun h=>⟨hs,h⟩⟩
 have hob:1 <= objK s1 e.2.1+1/\objK s1 e.2.1 <= 4:=by
  unfold objK;split
  ·omega
  ·split
   ·omega
   ·split <;> omega
 have core:(¬ numK e.2.1->e.2.2.2.1=0)->lastE e.1 l 0 ≠ 0->(e.2.1 ≠ 1->0 <= e.2.2.1/\e.2.2.1 < objK s1 e.2.1) ->
   (bif !(tB (fromE l e)) then some (false,s1,s2,s3,s4,s5,s6) else tailT e (s1,s2,s3,s4,s5,s6))=some (tB (goodE s1 l e),s1,s2,s3,s4,s5,s6):=by
  intro h1 h2 h3;rw[Yh4 hJ e hl hc hs h3];by_cases hf:fromE l e
  ·rw[tB_t hf,bif_f (by rfl)];by_cases hr:ruleE s1 l e
   ·rw[tB_t hr,tB_t (hG.2 ⟨h2,h1,h3,hf,hr⟩)]
   ·rw[tB_f hr,tB_f (fun h=>hr (hG.1 h).2.2.2.2)]
  ·rw[tB_f hf,bif_t (by rfl),tB_f (fun h=>hf (hG.1 h).2.2.2.1)]
 have bg:=Y2p hJ e hs hl k0
 have hobj:∀ X Y:Option (Bool × St),(e.2.1 ≠ 1->0 <= e.2.2.1/\e.2.2.1 < objK s1 e.2.1->Y=some (tB (goodE s1 l e),s1,s2,s3,s4,s5,s6))->(e.2.1=1->X=some (tB (goodE s1 l e),s1,s2,s3,s4,s5,s6)) ->
   (bif e.2.1 != 1 then (bif !(decide ((0:Int) <= e.2.2.1/\e.2.2.1 <= objK s1 e.2.1 - 1)) then some (false,s1,s2,s3,s4,s5,s6) else Y) else X)=some (tB (goodE s1 l e),s1,s2,s3,s4,s5,s6):=by
  intro X Y hY hX;by_cases k1:e.2.1=1
  ·rw[bif_f (by simpa using k1)]; exact hX k1
  ·rw[bif_t (by simpa using k1)];by_cases o:(0:Int) <= e.2.2.1/\e.2.2.1 <= objK s1 e.2.1 - 1
   ·rw[dT9 o,bif_f (by rfl)];exact hY k1 ⟨o.1,by omega⟩
   ·rw[dF9 o,bif_t (by rfl),tB_f (fun h=>o (by have:=(hG.1 h).2.2.1 k1; omega))]
 have hw:IntKind.wrap .i64 (objK s1 e.2.1 - 1)=objK s1 e.2.1 - 1:=wrapI (by omega) (by omega);rw[hw,bif_t (inbL.2 ⟨a1.1,by omega⟩),Y9d hJ a1.1 a1.2,bg];simp only[bS9];by_cases k3:e.2.1=3
 ·have hn:¬ numK e.2.1->e.2.2.2.1=0:=fun h=>absurd (.inl k3) h
  rw[bif_t (by simpa using k3)];by_cases z:lastE e.1 l 0=0
  ·rw[bif_t (by rw[z]; rfl),tB_f (fun h=>(hG.1 h).1 z)]
  rw[bif_f (by simp; omega)];exact hobj _ _ (fun k1 o=>core hn z (fun _=>o)) (fun k1=>core hn z (fun h=>absurd k1 h))
 rw[bif_f (by simpa using k3),bif_t (inbL.2 ⟨a1.1,by omega⟩)];by_cases z:lastE e.1 l 0=0
 ·rw[bif_t (by rw[z]; rfl),tB_f (fun h=>(hG.1 h).1 z)]
 rw[bif_f (by simp; omega)];by_cases k5:e.2.1=5
 ·have hn:¬ numK e.2.1->e.2.2.2.1=0:=fun h=>absurd (.inr k5) h
  rw[bif_f (by simp[k5])];exact hobj _ _ (fun k1 o=>core hn z (fun _=>o)) (fun k1=>core hn z (fun h=>absurd k1 h))
 rw[bif_t (by simpa using k5)];by_cases n:e.2.2.2.1=0
 ·rw[bif_f (by simpa using n)];exact hobj _ _ (fun k1 o=>core (fun _=>n) z (fun _=>o)) (fun k1=>core (fun _=>n) z (fun h=>absurd k1 h))
 ·rw[bif_t (by simpa using n),tB_f (fun h=>n ((hG.1 h).2.1 (fun q=>q.elim k3 k5)))]
end Go.Proofs.YtifbgkikkiallaaGreat.VX.VxZ_Z
namespace Go.Proofs.YtifbgkikkiallaaGreat.VX.VxZ_Z
open Go.Proofs
theorem Yhw (a b:Int):Ty.beq (.int .i64) a b=true ↔ a=b:=by
 show ((a == b)=true) ↔ _;simp
theorem beq_pp (a b:Int × Int):Ty.beq (.pair (.int .i64) (.int .i64)) a b=true ↔ a=b:=by
 show ((a.1 == b.1 && a.2 == b.2)=true) ↔ _;obtain ⟨a1,a2⟩:=a; obtain ⟨b1,b2⟩:=b;simp
theorem Y9r (k o:Int) (u:Int) (k' o':Int) (l:List ((Int × Int) × Int)):lookC k' o' (@mput (Int × Int) Int (Ty.beq (.pair (.int .i64) (.int .i64))) (k,o) u l)=if k'=k/\o'=o then u else lookC k' o' l:=by
 refine (Ybj (α:=Int) (κ:=Int × Int) (z:=0) beq_pp (k,o) u (k',o') l).trans ?_;show (if (k',o')=(k,o) then u else lookC k' o' l)=_;by_cases h:k'=k/\o'=o
 ·rw[if_pos h,if_pos (by rw[h.1,h.2])]
 ·rw[if_neg h,if_neg (fun e=>h ⟨congrArg Prod.fst e,congrArg Prod.snd e⟩)]
theorem Y9o (o:Int) (u:Int) (o':Int) (l:List (Int × Int)):lookF o' (@mput Int Int (Ty.beq (.int .i64)) o u l)=if o'=o then u else lookF o' l:=by
 exact Ybj (α:=Int) (κ:=Int) (z:=0) Yhw o u o' l
theorem Yc {caps:List Int} {l:List Ev} {s:St} (hJ:JOK caps l s) (e:Ev) (g0:0 <= e.1) (g1:e.1 <= 7) (hl:l.length < 30000) (hG:∀ x ∈ l,0 <= x.1)
  (b:Int) (hb:b=if e.2.1=0 then s.2.2.1+1 else s.2.2.1) (f:List (Int × Int))
  (hf:∀ o,lookF o f=if e.2.1=13/\e.2.2.1=o/\firstE o l=0 then e.1+1 else lookF o s.2.2.2.2.1) :
  JOK caps (l++[e]) (s.1,s.2.1.set (toN e.1) (l.length+1),b,mset (@mput (Int × Int) Int (Ty.beq (.pair (.int .i64) (.int .i64))) (e.2.1,e.2.2.1) (lookC e.2.1 e.2.2.1 s.2.2.2.1) s.2.2.2.1) (toN (natI (@mpos (Int × Int) Int (Ty.beq (.pair (.int .i64) (.int .i64))) (e.2.1,e.2.2.1) s.2.2.2.1))) (lookC e.2.1 e.2.2.1 s.2.2.2.1+1),f,s.2.2.2.2.2) where
 caps:=hJ.caps
 len:=by simp[hJ.len]
 last:=by
  intro g hg;rw[Y97];show (s.2.1.set (toN e.1) (l.length+1)).getD g 0=_;by_cases h:e.1=g
  ·rw[if_pos h,show toN e.1=g by unfold toN; omega];simp[List.getD,hJ.len,hg]
  ·rw[if_neg h,<- hJ.last g hg];have:toN e.1 ≠ g:=by unfold toN; omega
   simp[List.getD,List.getElem?_set,this]
 begun:=by
  show b=_;rw[hb,Y47,hJ.begun];split <;> simp
 count:=by
  intro k o;show lookC k o (mset _ (toN (natI _)) _)=_;rw[show mset (@mput (Int × Int) Int (Ty.beq (.pair (.int .i64) (.int .i64))) (e.2.1,e.2.2.1) (lookC e.2.1 e.2.2.1 s.2.2.2.1) s.2.2.2.1) (toN (natI (@mpos (Int × Int) Int (Ty.beq (.pair (.int .i64) (.int .i64))) (e.2.1,e.2.2.1) s.2.2.2.1))) (lookC e.2.1 e.2.2.1 s.2.2.2.1+1)=@mput (Int × Int) Int (Ty.beq (.pair (.int .i64) (.int .i64))) (e.2.1,e.2.2.1) (lookC e.2.1 e.2.2.1 s.2.2.2.1+1) s.2.2.2.1 from Ybm _ _ _,Y9r,Y42,hJ.count,hJ.count];by_cases h:k=e.2.1/\o=e.2.2.1
  ·rw[if_pos h,if_pos ⟨h.1.symm,h.2.symm⟩,h.1,h.2]; simp
  ·rw[if_neg h,if_neg (fun q=>h ⟨q.1.symm,q.2.symm⟩)]; simp
 first:=by
  intro o;show lookF o f=_;rw[hf,Y6l o e l hG,hJ.first];by_cases h:firstE o l=0
  ·rw[if_pos h];by_cases h2:e.2.1=13/\e.2.2.1=o
   ·rw[if_pos h2,if_pos ⟨h2.1,h2.2,h⟩]
   ·rw[if_neg h2,if_neg (fun q=>h2 ⟨q.1,q.2.1⟩),h]
  ·rw[if_neg h,if_neg (fun q=>h q.2.2)]
 orig:=hJ.orig
theorem may_eq {caps:List Int} {l:List Ev} {s:St} (hJ:JOK caps l s) (e:Ev) (hl:l.length < 30000) (hc:∀ n ∈ caps,-1 <= n/\n <= 3) (hcl:caps.length <= 4) (hG:∀ x ∈ l,0 <= x.1) :
  ∃ s',Z44 (l,e,s)=some (tB (goodE caps l e),s')/\(goodE caps l e->JOK caps (l++[e]) s'):=by
 unfold Z44;simp only;rw[Yi0 hJ e hl hc hcl];simp only[bS9];by_cases hg:goodE caps l e
 case neg=>rw[tB_f hg]; exact ⟨_,rfl,fun h=>absurd h hg⟩
 obtain ⟨g0,g1,k0,k1,n0,s0,s1⟩:=hg.1;have hlen:=hJ.len;have h1:inb e.1 8=true:=inbL.2 ⟨g0,by omega⟩;have h2:∀ (m:List ((Int × Int) × Int)) u,inb (natI (@mpos (Int × Int) Int (Ty.beq (.pair (.int .i64) (.int .i64))) (e.2.1,e.2.2.1) m)) (@mput (Int × Int) Int (Ty.beq (.pair (.int .i64) (.int .i64))) (e.2.1,e.2.2.1) u m).length=true:=fun m u=>Y86 (Ybh _ _)
 have h3:=hJ.count e.2.1 e.2.2.1;have h4:=Y44 l e.2.1 e.2.2.1;have h5:=hJ.begun;have h6:=Y48 l 0;have h7:=hJ.first e.2.2.1
 rw[tB_t hg];simp only[Bool.not_true,cond_false];rw[bif_t (h2 _ _),bif_t h1,wrapI (n:=(l.length:Int)+1) (by omega) (by omega),wrapI (n:=s.2.2.1+1) (by omega) (by omega),wrapI (n:=e.1+1) (by omega) (by omega)];have h8:IntKind.wrap .i64 (lookC e.2.1 e.2.2.1 s.2.2.2.1+1)=lookC e.2.1 e.2.2.1 s.2.2.2.1+1:=wrapI (by omega) (by omega)
 show ∃ s',(bif e.2.1 == 0 then some (true,s.1,s.2.1.set (toN e.1) (l.length+1),s.2.2.1+1,mset (@mput (Int × Int) Int (Ty.beq (.pair (.int .i64) (.int .i64))) (e.2.1,e.2.2.1) (lookC e.2.1 e.2.2.1 s.2.2.2.1) s.2.2.2.1) (toN (natI (@mpos (Int × Int) Int (Ty.beq (.pair (.int .i64) (.int .i64))) (e.2.1,e.2.2.1) s.2.2.2.1))) (IntKind.wrap .i64 (lookC e.2.1 e.2.2.1 s.2.2.2.1+1)),s.2.2.2.2.1,s.2.2.2.2.2)
  else bif e.2.1 == 13 then bif lookF e.2.2.1 s.2.2.2.2.1 == 0 then some (true,s.1,s.2.1.set (toN e.1) (l.length+1),s.2.2.1,mset (@mput (Int × Int) Int (Ty.beq (.pair (.int .i64) (.int .i64))) (e.2.1,e.2.2.1) (lookC e.2.1 e.2.2.1 s.2.2.2.1) s.2.2.2.1) (toN (natI (@mpos (Int × Int) Int (Ty.beq (.pair (.int .i64) (.int .i64))) (e.2.1,e.2.2.1) s.2.2.2.1))) (IntKind.wrap .i64 (lookC e.2.1 e.2.2.1 s.2.2.2.1+1)),@mput Int Int (Ty.beq (.int .i64)) e.2.2.1 (e.1+1) s.2.2.2.2.1,s.2.2.2.2.2)
   else some (true,s.1,s.2.1.set (toN e.1) (l.length+1),s.2.2.1,mset (@mput (Int × Int) Int (Ty.beq (.pair (.int .i64) (.int .i64))) (e.2.1,e.2.2.1) (lookC e.2.1 e.2.2.1 s.2.2.2.1) s.2.2.2.1) (toN (natI (@mpos (Int × Int) Int (Ty.beq (.pair (.int .i64) (.int .i64))) (e.2.1,e.2.2.1) s.2.2.2.1))) (IntKind.wrap .i64 (lookC e.2.1 e.2.2.1 s.2.2.2.1+1)),s.2.2.2.2.1,s.2.2.2.2.2)
  else some (true,s.1,s.2.1.set (toN e.1) (l.length+1),s.2.2.1,mset (@mput (Int × Int) Int (Ty.beq (.pair (.int .i64) (.int .i64))) (e.2.1,e.2.2.1) (lookC e.2.1 e.2.2.1 s.2.2.2.1) s.2.2.2.1) (toN (natI (@mpos (Int × Int) Int (Ty.beq (.pair (.int .i64) (.int .i64))) (e.2.1,e.2.2.1) s.2.2.2.1))) (IntKind.wrap .i64 (lookC e.2.1 e.2.2.1 s.2.2.2.1+1)),s.2.2.2.2.1,s.2.2.2.2.2))=some (true,s')/\_
 rw[h8];have app:=Yc hJ e g0 g1 hl hG;by_cases c0:e.2.1=0
 ·rw[bif_t (by simpa using c0)];exact ⟨_,rfl,fun _=>app _ (by rw[if_pos c0]) _ (fun o=>by rw[if_neg (fun q=>by omega)])⟩
 rw[bif_f (by simpa using c0)];by_cases c1:e.2.1=13
 ·rw[bif_t (by simpa using c1)];by_cases c2:lookF e.2.2.1 s.2.2.2.2.1=0
  ·rw[bif_t (by simpa using c2)];refine ⟨_,rfl,fun _=>app _ (by rw[if_neg c0]) _ (fun o=>?_)⟩;rw[Y9o];by_cases c3:e.2.2.1=o
   ·rw[if_pos c3.symm,if_pos ⟨c1,c3,by rw[<- c3,<- h7]; exact c2⟩]
   ·rw[if_neg (fun h=>c3 h.symm),if_neg (fun h=>c3 h.2.1)]
  ·rw[bif_f (by simpa using c2)];refine ⟨_,rfl,fun _=>app _ (by rw[if_neg c0]) _ (fun o=>?_)⟩;rw[if_neg];rintro ⟨_,q1,q2⟩;rw[<- q1,<- h7] at q2;exact c2 q2
 ·rw[bif_f (by simpa using c1)];exact ⟨_,rfl,fun _=>app _ (by rw[if_neg c0]) _ (fun o=>by rw[if_neg (fun q=>c1 q.1)])⟩
def capsOK (caps:List Int):Prop:=caps.length <= 4/\∀ n ∈ caps,-1 <= n/\n <= 3
def Yb (caps:List Int) (l:List Ev) (r:Int):Prop :=
 (r=-1/\GoodL caps l) \/ ∃ i:Nat,∃ h:i < l.length,r=i/\¬ goodE caps (l.take i) l[i]/\GoodL caps (l.take i)
theorem Ya {caps:List Int} {l:List Ev} (k:Nat):GoodL caps (l.take k) ↔ ∀ i (h:i < l.length),i < k->goodE caps (l.take i) l[i]:=by
 constructor
 ·intro h i hi hk;have:=h i (by simp; omega);rw[List.take_take,Nat.min_eq_left (by omega)] at this;simpa using this
 ·intro h i hi;have h':=hi;simp only[List.length_take] at h';rw[List.take_take,Nat.min_eq_left (by omega)];simpa using h i (by omega) (by omega)
theorem Y9 {caps:List Int} {l:List Ev}:GoodL caps l ↔ GoodL caps (l.take l.length):=by rw[List.take_length]
theorem Yb.uniq {caps:List Int} {l:List Ev} {r s:Int} (h:Yb caps l r) (h2:Yb caps l s):r=s:=by
 rcases h with ⟨rfl,a⟩ | ⟨i,hi,rfl,a,b⟩ <;> rcases h2 with ⟨rfl,c⟩ | ⟨j,hj,rfl,c,d⟩
 ·rfl
 ·exact absurd (a j hj) c
 ·exact absurd (c i hi) a
 ·rcases Nat.lt_trichotomy i j with h | h | h
  ·exact absurd ((Ya j).1 d i hi h) a
  ·rw[h]
  ·exact absurd ((Ya i).1 b j hj h) c
theorem Yb.take {caps:List Int} {l:List Ev} {r:Int} (h:Yb caps l r) (k:Nat):Yb caps (l.take k) (if 0 <= r/\r < k then r else -1):=by
 rcases h with ⟨rfl,a⟩ | ⟨i,hi,rfl,a,b⟩
 ·rw[if_neg (by omega)];exact .inl ⟨rfl,(Ya k).2 fun i hi _=>a i hi⟩
 ·by_cases hk:i < k
  ·rw[if_pos (by omega)];refine .inr ⟨i,by simp; omega,rfl,?_,?_⟩
   ·rw[List.take_take,Nat.min_eq_left (by omega)]; simpa using a
   ·rw[List.take_take,Nat.min_eq_left (by omega)]; exact b
  ·rw[if_neg (by omega)];exact .inl ⟨rfl,(Ya k).2 fun j hj hjk=>(Ya i).1 b j hj (by omega)⟩
theorem Yb.range {caps:List Int} {l:List Ev} {r:Int} (h:Yb caps l r):-1 <= r/\(r < l.length):=by
 rcases h with ⟨rfl,a⟩ | ⟨i,hi,rfl,a,b⟩ <;> omega
theorem getAtE {l:List Ev} {i:Nat} (h:i < l.length):getAt ((0:Int),((0:Int),((0:Int),((0:Int),(0:Int))))) l (toN (i:Int))=l[i]:=getAtL _ h
theorem cutE (l:List Ev) (i:Nat):cut l (toN 0) (toN (i:Int) - toN 0)=l.take i:=rfl
theorem jok0 (caps:List Int):JOK caps [] (caps,[0,0,0,0,0,0,0,0],0,[],[],orgM) where
 caps:=rfl
 len:=rfl
 last:=by intro g hg; show [0,0,0,0,0,0,0,0].getD g 0=0; rcases (by omega:g=0 \/ g=1 \/ g=2 \/ g=3 \/ g=4 \/ g=5 \/ g=6 \/ g=7) with rfl | rfl | rfl | rfl | rfl | rfl | rfl | rfl <;> rfl
 begun:=rfl
 count:=fun k o=>rfl
 first:=fun o=>rfl
 orig:=rfl
theorem Yhu {caps:List Int} {l:List Ev} (hl:l.length < 30000) (hc:capsOK caps):∀ x:Nat × St,x.1 <= l.length/\JOK caps (l.take x.1) x.2/\GoodL caps (l.take x.1) ->
  ∃ y,loop Z7o (l,l,l.length,(x.1:Int),x.2)=some y/\((∃ i,y=.inl (i,0)/\0 <= i/\Yb caps l i) \/ y=.inr ()/\GoodL caps l):=by
 have:∀ d (k:Nat) (s:St),l.length - k=d->k <= l.length->JOK caps (l.take k) s->GoodL caps (l.take k) ->
   ∃ y,loop Z7o (l,l,l.length,(k:Int),s)=some y/\((∃ i,y=.inl (i,0)/\0 <= i/\Yb caps l i) \/ y=.inr ()/\GoodL caps l):=by
  intro d;induction d with
  | zero =>
   intro k s h1 h2 h3 h4;obtain rfl:k=l.length:=by omega
   refine ⟨.inr (),?_,.inr ⟨rfl,Y9.2 h4⟩⟩;rw[Y9z];unfold Z7o;simp only;rw[bif_f (dF9 (by omega))]
  | succ d ih =>
   intro k s h1 h2 h3 h4;have hk:k < l.length:=by omega
   have hG:∀ x ∈ l.take k,0 <= x.1:=Y7r h4;obtain ⟨s',e1,e2⟩:=may_eq h3 l[k] (by simp; omega) hc.2 hc.1 hG;rw[Y9z]
   have step:Z7o (l,l,l.length,(k:Int),s)=bif tB (goodE caps (l.take k) l[k]) then some (.inl (l,l,(l.length:Int),((k+1:Nat):Int),s')) else some (.inr (.inl ((k:Int),0))):=by
    unfold Z7o;simp only;rw[bif_t (dT9 (by omega)),bif_t (Y86 hk),bif_t (sub3L.2 ⟨by omega,by omega,by omega⟩),getAtE hk,cutE];rw[show (l.take k,l[k],s.1,s.2.1,s.2.2.1,s.2.2.2.1,s.2.2.2.2.1,s.2.2.2.2.2)=(l.take k,l[k],s) from rfl,e1];simp only[bS9];by_cases hg:goodE caps (l.take k) l[k]
    ·rw[tB_t hg,wrapI (by omega) (by omega)]; rfl
    ·rw[tB_f hg]; rfl
   rw[step];by_cases hg:goodE caps (l.take k) l[k]
   ·rw[bif_t (tB_t hg)];refine ih (k+1) s' (by omega) (by omega) ?_ ?_
    ·rw[<- List.take_append_getElem hk]; exact e2 hg
    ·refine (Ya (k+1)).2 fun i hi hik=>?_
     by_cases h:i=k
     ·subst h; exact hg
     ·exact (Ya k).1 h4 i hi (by omega)
   ·rw[bif_f (tB_f hg)];exact ⟨_,rfl,.inl ⟨k,rfl,by omega,.inr ⟨k,hk,rfl,hg,h4⟩⟩⟩
 exact fun x h=>this _ x.1 x.2 rfl h.1 h.2.1 h.2.2
theorem Y84 (n:Int):Z3v n=some (!decide (-1 <= n/\n <= 3)):=by
 unfold Z3v;rw[zin_eq]; rfl
theorem Y3j (caps:List Int) (h:caps.length < 30000):Z34 caps=some (tB (¬ ∀ n ∈ caps,-1 <= n/\n <= 3)):=by
 have hf:=Ya0 (f:=Z7a) caps (fun n=>!decide (-1 <= n/\n <= 3)) (fun k=>(caps,(caps.length:Int),(k:Int))) (fun k=>.inl (k:Int)) (.inr ()) (by
   intro k hk;unfold Z7a;simp only;rw[bif_t (dT9 (by omega)),bif_t (Y86 hk),Yhe,getAtL _ hk,Y84,wrapI (by omega) (by omega)];simp only[bS9];cases hb:!decide (-1 <= caps[k]/\caps[k] <= 3)
   ·rfl
   ·rfl) (by
   unfold Z7a;simp only;rw[bif_f (dF9 (by omega))])
 unfold Z34 Z3e;rw[show loop Z7a (caps,((caps.length:Nat):Int),0)=_ from hf];simp only[bS9];cases hfi:caps.findIdx? (fun n=>!decide (-1 <= n/\n <= 3)) with
 | none =>
  have:=List.findIdx?_eq_none_iff.1 hfi;simp only[bS9];rw[tB_f (fun h=>h fun n hn=>by simpa using this n hn)]; rfl
 | some i =>
  obtain ⟨hi,hp,_⟩:=List.findIdx?_eq_some_iff_getElem.1 hfi;simp only[bS9];rw[tB_t (fun h=>by have:=h _ (List.getElem_mem hi); simp at hp; omega),dT9 (by omega)]
theorem Yi1 (caps:List Int) (l:List Ev) (hn:caps.length < 30000) (hl:l.length < 30000) :
  ∃ r e,Z3u (caps,l)=some (r,e)/\(capsOK caps/\e=0/\Yb caps l r \/ ¬ capsOK caps/\e=1/\r=0):=by
 unfold Z3u;simp only;by_cases h4:caps.length <= 4
 case neg =>
  rw[bif_t (dT9 (by omega))];exact ⟨_,_,rfl,.inr ⟨fun h=>h4 h.1,rfl,rfl⟩⟩
 rw[bif_f (dF9 (by omega)),Y3j caps hn];simp only[bS9];by_cases hc:∀ n ∈ caps,-1 <= n/\n <= 3
 case neg =>
  rw[tB_t hc];exact ⟨_,_,rfl,.inr ⟨fun h=>hc h.2,rfl,rfl⟩⟩
 rw[tB_f (fun h=>h hc)];simp only[cond_false,Ycc,bS9];have hr:∀ s:St,Z4f s=some s:=fun s=>rfl
 rw[show ((caps,[0,0,0,0,0,0,0,0],0,([]:List ((Int × Int) × Int)),([]:List (Int × Int)),orgM))=(show St from (caps,[0,0,0,0,0,0,0,0],0,[],[],orgM)) from rfl,hr];simp only[bS9];obtain ⟨y,e1,e2⟩:=Yhu hl ⟨h4,hc⟩ (0,(caps,[0,0,0,0,0,0,0,0],0,[],[],orgM)) ⟨Nat.zero_le _,jok0 caps,fun i h=>by simp at h⟩;have e1:loop Z7o (l,l,(l.length:Int),0,caps,[0,0,0,0,0,0,0,0],0,[],[],orgM)=some y:=e1;rw[e1];rcases e2 with ⟨i,rfl,h0,h1⟩ | ⟨rfl,h1⟩
 ·exact ⟨_,_,rfl,.inl ⟨⟨h4,hc⟩,rfl,h1⟩⟩
 ·exact ⟨_,_,rfl,.inl ⟨⟨h4,hc⟩,rfl,.inl ⟨rfl,h1⟩⟩⟩
theorem Y9b {l:List Ev} {i:Nat} (h:i < l.length) (hl:l.length < 30000):Zw (l,(i:Int))=some ((lastE l[i].1 (l.take i) 0:Int) - 1):=by
 have hlen:(l.take i).length=i:=by simp; omega
 have key:=Y9y (f:=Z62) i (fun k=>(l,((i:Int),((lastE l[i].1 (l.take k) 0:Int) - 1,((i:Int),(k:Int)))))) ((lastE l[i].1 (l.take i) 0:Int) - 1) (by
   intro k hk;unfold Z62;simp only;rw[bif_t (dT9 (by omega)),bif_t (Y86 (by omega)),bif_t (Y86 h),getAtE (by omega:k < l.length),getAtE h,wrapI (by omega) (by omega)];have hlen:(l.take k).length=k:=by simp; omega
   rw[<- List.take_append_getElem (by omega:k < l.length),Y97,hlen];by_cases hg:l[k].1=l[i].1
   ·rw[bif_t (by simpa using hg),if_pos hg];have:(k:Int)=((0+k+1:Nat):Int) - 1:=by omega
    rw[<- this]; rfl
   ·rw[bif_f (by simpa using hg),if_neg hg]; rfl) (by
   unfold Z62;simp only;rw[bif_f (dF9 (by omega))]) 0 (Nat.zero_le _)
 unfold Zw;simp only;rw[bif_t (sub3L.2 ⟨by omega,by omega,by omega⟩),cutE,hlen];rw[show loop Z62 (l,(i:Int),(Int.negSucc 0),(i:Int),0)=_ from key];rfl
theorem Y4v {l:List Ev} {i:Nat} (h:i <= l.length) (hl:l.length < 30000) (k o:Int):Zu (l,(i:Int),k,o)=some (cntE (l.take i) k o:Int):=by
 have hlen:(l.take i).length=i:=by simp; omega
 have key:=Y9y (f:=Z60) i (fun j=>(k,o,(cntE (l.take j) k o:Int),l.take i,(i:Int),(j:Int))) (cntE (l.take i) k o:Int) (by
   intro j hj;have hj':j < (l.take i).length:=by omega
   unfold Z60;simp only;have h1:=Y44 (l.take j) k o;have h2:(l.take j).length <= 30000:=by simp; omega
   rw[bif_t (dT9 (by omega)),bif_t (Y86 hj'),getAtE hj',wrapI (n:=(j:Int)+1) (by omega) (by omega),wrapI (n:=(cntE (l.take j) k o:Int)+1) (by omega) (by omega)];have hx:(l.take i)[j]=l[j]:=by simp
   rw[hx,<- List.take_append_getElem (by omega:j < l.length),Y42];by_cases a:l[j].2.1=k
   ·rw[bif_t (by simpa using a)];by_cases b:l[j].2.2.1=o
    ·rw[bif_t (by simpa using b),if_pos ⟨a,b⟩]; rfl
    ·rw[bif_f (by simpa using b),if_neg (fun q=>b q.2)]; rfl
   ·rw[bif_f (by simpa using a),if_neg (fun q=>a q.1)]; rfl) (by
   unfold Z60;simp only;rw[bif_f (dF9 (by omega))]) 0 (Nat.zero_le _)
 unfold Zu;simp only;rw[bif_t (sub3L.2 ⟨by omega,by omega,by omega⟩),cutE,hlen];rw[show loop Z60 (k,o,(0:Int),l.take i,(i:Int),0)=_ from key];rfl
theorem Y7n {l:List Ev} {i:Nat} (h:i <= l.length) {s:Int} (h0:0 <= s) (h1:s < i):getE l s=getE (l.take i) s:=by
 unfold getE;have:s.toNat < i:=by omega
 have h2:s.toNat < l.length:=by omega
 simp[List.getD,List.getElem?_take,this]
theorem Yfr {l:List Ev} {i:Nat} (h:i < l.length):Z1k (l,(i:Int))=some (tB (¬ shapeE (l.take i) l[i])):=by
 have hlen:(l.take i).length=i:=by simp; omega
 unfold Z1k;simp only[Y86 h,cond_true,getAtE h,neg1,tB_dec,tB_cT];refine Yg8 ?_;unfold shapeE;rw[hlen];omega
theorem Y2r {l:List Ev} {i:Nat} (h:i < l.length) (hl:l.length < 30000) (hs:shapeE (l.take i) l[i]):Z16 (l,(i:Int))=some (tB (¬ (if l[i].2.1=0 then startE (l.take i) l[i] else lastE l[i].1 (l.take i) 0 ≠ 0))):=by
 have hlen:(l.take i).length=i:=by simp; omega
 unfold shapeE at hs;rw[hlen] at hs;have hg:∀ s:Int,0 <= s->s < i->getE l s=getE (l.take i) s:=fun s h0 h1=>Y7n (by omega) h0 h1
 have hi:0 <= l[i].2.2.2.2->inb l[i].2.2.2.2 l.length=true:=fun h0=>inbL.2 ⟨h0,by omega⟩
 unfold Z16;rw[bif_t (Y86 h),Y9b h hl];simp only[Y7l,getAtE h,bS9];unfold startE;by_cases hz:0 <= l[i].2.2.2.2
 ·rw[hi hz,hg _ hz (by omega)];generalize getE (l.take i) l[i].2.2.2.2=x;generalize l[i]=e at *;generalize lastE e.1 (l.take i) 0=n;simp only[cond_true,neg1,tB_dec,Yh1,Yh0,tB_cT,tB_eF,tB_c2];refine Yg8 ?_;simp only[iteP];omega
 ·have hn:l[i].2.2.2.2 < 0:=by omega
  generalize getE (l.take i) l[i].2.2.2.2=x;generalize l[i]=e at *;generalize lastE e.1 (l.take i) 0=n;simp only[dT9 hn,cond_true,neg1,tB_dec,Yh1,Yh0,tB_cT,tB_eF,tB_c2,tB_tf];refine Yg8 ?_;simp only[iteP];omega
theorem Yc1 (k:Int):Z1g k=some (tB (numK k)):=by
 unfold Z1g;simp only[Yh0,tB_cT]; rfl
theorem Y2n (k:Int):Z14 k=some (tB (begK k)):=by
 unfold Z14;simp only[Yh0,tB_cT]; rfl
theorem Yc9 (k:Int):Z1i k=some (orgK k):=by
 unfold Z1i orgK;simp only[Bool.cond_eq_ite,beq_iff_eq]
 repeat' split
 all_goals first | rfl | omega
theorem Ybd (caps:List Int) (k:Int) (h0:0 <= k) (h1:k <= 17):Z1e (caps,k)=some (objK caps k):=by
 unfold Z1e objK;simp only[Bool.cond_eq_ite,beq_iff_eq,decide_eq_true_eq]
 repeat' split
 all_goals first | rfl | omega
theorem Y46 {l:List Ev} {i:Nat} (h:i < l.length) (hl:l.length < 30000) (e:Ev):loop Z68 (0,l.take i,((l.take i).length:Int),0,e)=some ((cntT (l.take i) 0:Int),e):=by
 have hlen:(l.take i).length=i:=by simp; omega
 rw[hlen]
 refine Y9y (f:=Z68) i (fun j=>((cntT (l.take j) 0:Int),l.take i,(i:Int),(j:Int),e)) ((cntT (l.take i) 0:Int),e) (by
   intro j hj;have hj':j < (l.take i).length:=by omega
   unfold Z68;simp only;have h1:=Y48 (l.take j) 0;have h2:(l.take j).length <= 30000:=by simp; omega
   rw[bif_t (dT9 (by omega)),bif_t (Y86 hj'),getAtE hj',wrapI (n:=(j:Int)+1) (by omega) (by omega),wrapI (n:=(cntT (l.take j) 0:Int)+1) (by omega) (by omega)];have hx:(l.take i)[j]=l[j]:=by simp
   rw[hx,<- List.take_append_getElem (by omega:j < l.length),Y47];by_cases a:l[j].2.1=0
   ·rw[bif_t (by simpa using a),if_pos a]; rfl
   ·rw[bif_f (by simpa using a),if_neg a]; rfl) (by
   unfold Z68;simp only;rw[bif_f (dF9 (by omega))]) 0 (Nat.zero_le _)
theorem Y6d {caps:List Int} {l:List Ev} {i:Nat} (h:i < l.length) (hl:l.length < 30000) (hs:shapeE (l.take i) l[i]) :
  Z1c (caps,l,(i:Int))=some (tB (¬ ((¬ numK l[i].2.1->l[i].2.2.2.1=0)/\(¬ begK l[i].2.1->l[i].2.2.2.2=-1)/\(l[i].2.1=1->l[i].2.2.1=cntT (l.take i) 0)/\(l[i].2.1 ≠ 0->l[i].2.1 ≠ 1->0 <= l[i].2.2.1/\l[i].2.2.1 < objK caps l[i].2.1)))):=by
 have hk:=Ybd caps l[i].2.1 hs.2.2.1 hs.2.2.2.1;have hc:=Y46 h hl l[i];have h3:sub3 0 (i:Int) l.length=true:=sub3L.2 ⟨by omega,by omega,by omega⟩;unfold Z1c;rw[bif_t (Y86 h)];simp only[getAtE h,cutE,Yc1,Y2n,bS9,hc,hk,h3,cond_true,neg1,tB_dec,tB_not,Yh1,Yh0,tB_cT,tB_eF,tB_c2];refine Yg8 ?_;generalize l[i]=e at *;generalize objK caps e.2.1=o;generalize cntT (l.take i) 0=c;unfold numK begK;omega
theorem Y2o {l:List Ev} {i:Nat} (h:i < l.length) (hl:l.length < 30000) (hs:shapeE (l.take i) l[i]) (h2:¬ begK l[i].2.1->l[i].2.2.2.2=-1) (hk:l[i].2.1 ≠ 0) :
  Z12 (l,(i:Int))=some (tB (¬ fromE (l.take i) l[i])):=by
 have hlen:(l.take i).length=i:=by simp; omega
 unfold shapeE at hs;rw[hlen] at hs;have hg:∀ s:Int,0 <= s->s < i->getE l s=getE (l.take i) s:=fun s h0 h1=>Y7n (by omega) h0 h1
 have hi:0 <= l[i].2.2.2.2->inb l[i].2.2.2.2 l.length=true:=fun h0=>inbL.2 ⟨h0,by omega⟩
 unfold Z12;rw[bif_t (Y86 h),Y9b h hl];simp only[Y7l,getAtE h,bS9,Yc9,Y2n];unfold fromE;by_cases hz:0 <= l[i].2.2.2.2
 ·rw[hi hz,hg _ hz (by omega)];generalize getE (l.take i) l[i].2.2.2.2=x;generalize l[i]=e at *;generalize lastE e.1 (l.take i) 0=n;generalize orgK e.2.1=o;simp only[cond_true,neg1,tB_dec,Yh1,Yh0,tB_not,tB_cT,tB_cF,tB_eF,tB_c2];refine Yg8 ?_;simp only[iteP];unfold begK at *;omega
 ·have hn:l[i].2.2.2.2 < 0:=by omega
  generalize getE (l.take i) l[i].2.2.2.2=x;generalize l[i]=e at *;generalize lastE e.1 (l.take i) 0=n;simp only[dT9 hn,cond_true,neg1,tB_dec,Yh1,Yh0,tB_not,tB_cT,tB_cF,tB_eF,tB_c2,tB_ft];refine Yg8 ?_;simp only[iteP];unfold begK at *;omega
theorem Y3s {caps:List Int} {l:List Ev} {i:Nat} (h:i < l.length) (hl:l.length < 30000) (hc:capsOK caps) (hG:GoodL caps (l.take i)) (ho:2 <= l[i].2.1/\l[i].2.1 <= 7->0 <= l[i].2.2.1/\l[i].2.2.1 < caps.length) :
  Z18 (caps,l,(i:Int))=some (tB (¬ ((l[i].2.1=3->ruleK 3 caps (l.take i) l[i])/\(l[i].2.1=5->ruleK 5 caps (l.take i) l[i])/\(l[i].2.1=6->ruleK 6 caps (l.take i) l[i])/\(l[i].2.1=7->ruleK 7 caps (l.take i) l[i])))):=by
 have hop:0 < cntE (l.take i) 7 l[i].2.2.1->0 <= capO caps l[i].2.2.1:=fun q=>Y40 hG q
 have h5:=Y44 (l.take i) 5 l[i].2.2.1;have hlen:(l.take i).length=i:=by simp; omega
 have hcap:2 <= l[i].2.1/\l[i].2.1 <= 7->-1 <= capO caps l[i].2.2.1/\capO caps l[i].2.2.1 <= 3:=fun q=>by
  obtain ⟨a,b⟩:=ho q;unfold capO;have:l[i].2.2.1.toNat < caps.length:=by omega
  simp only[List.getD,List.getElem?_eq_getElem this,Option.getD_some];exact hc.2 _ (List.getElem_mem this)
 have hin:2 <= l[i].2.1/\l[i].2.1 <= 7->inb l[i].2.2.1 caps.length=true:=fun q=>inbL.2 (ho q)
 have hca:2 <= l[i].2.1/\l[i].2.1 <= 7->getAt (0:Int) caps (toN l[i].2.2.1)=capO caps l[i].2.2.1:=fun q=>Y3h _ _ (ho q).1
 unfold Z18;rw[bif_t (Y86 h)];simp only[getAtE h,Y4v (Nat.le_of_lt h) hl,bS9];unfold ruleK;by_cases hk:2 <= l[i].2.1/\l[i].2.1 <= 7
 ·rw[hin hk,hca hk];have hcap:=hcap hk;rw[wrapI (by omega) (by omega)];generalize capO caps l[i].2.2.1=c at *;generalize cntE (l.take i) 3 l[i].2.2.1=n3 at *;generalize cntE (l.take i) 5 l[i].2.2.1=n5 at *;generalize cntE (l.take i) 7 l[i].2.2.1=n7 at *;generalize l[i]=e at *;simp only[cond_true,neg1,tB_dec,Yh1,Yh0,tB_not,tB_cT,tB_cF,tB_eF,tB_c2];refine Yg8 ?_;omega
 ·have h3:(l[i].2.1 != 3)=true:=by simp; omega
  rw[bif_t h3];by_cases h4:l[i].2.1 < 5
  ·rw[bif_t (dT9 h4),tB_f (by omega)]
  ·rw[bif_f (dF9 h4),bif_t (dT9 (by omega)),tB_f (by omega)]
theorem Y6n (o:Int):∀ l:List Ev,firstE o l=match l.findIdx? (fun x=>x.2.1 == 13 && x.2.2.1 == o) with | some j=>(l.getD j zEv).1+1 | none=>0
 | []=>rfl
 | a :: l=>by
  rw[Y6m,List.findIdx?_cons];by_cases h:a.2.1=13/\a.2.2.1=o
  ·rw[if_pos h,if_pos (by simpa using h)]; rfl
  ·rw[if_neg h,if_neg (by simpa using h),Y6n o l];cases l.findIdx? (fun x=>x.2.1 == 13 && x.2.2.1 == o) with
   | none=>rfl
   | some j=>rfl
theorem Y5x {caps:List Int} {l:List Ev} {i:Nat} (h:i < l.length) (hl:l.length < 30000) (hk:l[i].2.1=14 \/ l[i].2.1=15) (hg:0 <= l[i].1) :
  Z1a (l,(i:Int))=some (tB (¬ ruleK l[i].2.1 caps (l.take i) l[i])):=by
 have hlen:(l.take i).length=i:=by simp; omega
 unfold Z1a;simp only;rw[bif_t (Y86 h)];simp only[getAtE h,Y4v (Nat.le_of_lt h) hl,bS9,cutE,hlen];rw[bif_t (sub3L.2 ⟨by omega,by omega,by omega⟩)];rcases hk with hk | hk
 ·rw[bif_f (by rw[hk]; rfl)]
  have key:=Ya0 (f:=Z66) (l.take i) (fun x=>x.2.1 == 13 && x.2.2.1 == l[i].2.2.1) (fun j=>(l,(i:Int),l.take i,(i:Int),(j:Int),l[i]))
   (fun j=>.inl (tB (((l.take i).getD j zEv).1 ≠ l[i].1 \/ 0 < cntE (l.take i) 14 l[i].2.2.1))) (.inr ()) (by
    intro j hj;unfold Z66;simp only;rw[bif_t (dT9 (by omega)),bif_t (Y86 hj),getAtE hj,wrapI (by omega) (by omega),Y4v (Nat.le_of_lt h) hl];have hd:(l.take i).getD j zEv=(l.take i)[j]:=by rw[List.getD,List.getElem?_eq_getElem hj]; rfl
    rw[hd];generalize (l.take i)[j]=x;by_cases a:x.2.1=13
    ·rw[bif_t (by simpa using a)];by_cases b:x.2.2.1=l[i].2.2.1
     ·rw[bif_t (by simpa using b),if_pos (by simp[a,b])];by_cases c:x.1=l[i].1
      ·rw[bif_f (by simpa using c)];simp only[bS9];rw[tB_dec];congr 3;exact tB_eq (by omega)
      ·rw[bif_t (by simpa using c),tB_t (.inl c)]
     ·rw[bif_f (by simpa using b),if_neg (by simp[b])]; rfl
    ·rw[bif_f (by simpa using a),if_neg (by simp[a])]; rfl) (by
    unfold Z66;simp only;rw[bif_f (dF9 (by omega))])
  rw[show loop Z66 (l,(i:Int),l.take i,(i:Int),0,l[i])=_ from key,hk];have hf:=Y6n l[i].2.2.1 (l.take i);have hR:ruleK 14 caps (l.take i) l[i] ↔ (cntE (l.take i) 14 l[i].2.2.1=0/\firstE l[i].2.2.1 (l.take i)=l[i].1+1):=Iff.rfl;cases hfi:(l.take i).findIdx? (fun x=>x.2.1 == 13 && x.2.2.1 == l[i].2.2.1) with
  | none =>
   rw[hfi] at hf;simp only[bS9];rw[tB_t];intro q;have:=(hR.1 q).2;rw[hf] at this;simp only at this; omega
  | some j =>
   rw[hfi] at hf;simp only at hf;simp only[bS9];refine Yg8 ?_;rw[hR,hf];omega
 ·rw[bif_t (by rw[hk]; rfl),hk];have hR:ruleK 15 caps (l.take i) l[i] ↔ 0 < cntE (l.take i) 14 l[i].2.2.1:=Iff.rfl;rw[Yh0];refine Yg8 ?_;rw[hR]; omega
theorem Ygz {caps:List Int} {l:List Ev} {i:Nat} (h:i < l.length) (hl:l.length < 30000) (hg:0 <= l[i].1) :
  Z1m (l,(i:Int))=some (tB (¬ (10 <= l[i].2.1->ruleK l[i].2.1 caps (l.take i) l[i]))):=by
 have hlen:(l.take i).length=i:=by simp; omega
 have h1:=Y44 (l.take i) 11 l[i].2.2.1;have h2:=Y44 (l.take i) 12 l[i].2.2.1;unfold Z1m;simp only;rw[bif_t (Y86 h)];simp only[getAtE h,Y4v (Nat.le_of_lt h) hl,bS9];rw[wrapI (by omega) (by omega)];by_cases c1:l[i].2.1=11
 ·rw[bif_t (by simpa using c1),Yh1,c1];refine Yg8 ?_;show _ ↔ ¬ ((10:Int) <= 11->cntE (l.take i) 11 l[i].2.2.1=cntE (l.take i) 12 l[i].2.2.1);omega
 rw[bif_f (by simpa using c1)];by_cases c2:l[i].2.1=12
 ·rw[bif_t (by simpa using c2),Yh1,c2];refine Yg8 ?_;show _ ↔ ¬ ((10:Int) <= 12->(cntE (l.take i) 11 l[i].2.2.1:Int) - cntE (l.take i) 12 l[i].2.2.1=1);omega
 rw[bif_f (by simpa using c2)];by_cases c3:l[i].2.1=14
 ·rw[bif_t (by simpa using c3),Y5x (caps:=caps) h hl (.inl c3) hg];exact Yg8 ⟨fun q r=>q (r (by omega)),fun q r=>q (fun _=>r)⟩
 rw[bif_f (by simpa using c3)];by_cases c4:l[i].2.1=15
 ·rw[bif_t (by simpa using c4),Y5x (caps:=caps) h hl (.inr c4) hg];exact Yg8 ⟨fun q r=>q (r (by omega)),fun q r=>q (fun _=>r)⟩
 rw[bif_f (by simpa using c4),tB_f];intro q;refine q fun h10=>?_
 generalize l[i].2.1=k at *;unfold ruleK;split <;> first | contradiction | trivial | omega
theorem Y2l {caps:List Int} {l:List Ev} {i:Nat} (h:i < l.length) (hl:l.length < 30000) (hc:capsOK caps) (hG:GoodL caps (l.take i)) :
  Z10 (caps,l,(i:Int))=some (tB (¬ goodE caps (l.take i) l[i])):=by
 unfold Z10;simp only;rw[Yfr h];simp only[bS9];by_cases hs:shapeE (l.take i) l[i]
 case neg=>rw[tB_t hs,tB_t (fun q:goodE caps (l.take i) l[i]=>hs q.1)]; rfl
 rw[tB_f (fun q=>q hs),Y2r h hl hs];simp only[cond_false,bS9];rw[Y6d h hl hs];simp only[bS9];by_cases k0:l[i].2.1=0
 ·have hgood:goodE caps (l.take i) l[i] ↔ startE (l.take i) l[i]:=by unfold goodE; rw[if_pos k0]; exact ⟨fun q=>q.2,fun q=>⟨hs,q⟩⟩
  rw[if_pos k0];by_cases hst:startE (l.take i) l[i]
  case neg=>rw[tB_t hst,tB_t (fun q=>hst (hgood.1 q))]; rfl
  have hb:Z12 (l,(i:Int))=some false:=by
   unfold Z12;simp only;rw[bif_t (Y86 h)];simp only[getAtE h];rw[bif_t (by simpa using k0)]
  have hch:Z18 (caps,l,(i:Int))=some false:=by
   rw[Y3s h hl hc hG (fun q=>by omega),tB_f];intro q; refine q ⟨?_,?_,?_,?_⟩ <;> (intro r; omega)
  have hsy:Z1m (l,(i:Int))=some false:=by
   rw[Ygz (caps:=caps) h hl hs.1,tB_f];intro q; exact q (fun r=>by omega)
  have hfi:(¬ numK l[i].2.1->l[i].2.2.2.1=0)/\(¬ begK l[i].2.1->l[i].2.2.2.2=-1)/\(l[i].2.1=1->l[i].2.2.1=cntT (l.take i) 0)/\(l[i].2.1 ≠ 0->l[i].2.1 ≠ 1->0 <= l[i].2.2.1/\l[i].2.2.1 < objK caps l[i].2.1) :=
   ⟨fun _=>hst.2.2.1,fun q=>absurd (.inl k0) q,fun q=>by omega,fun q=>absurd k0 q⟩
  rw[tB_f (fun q=>q hst),tB_f (fun q=>q hfi),hb,hch,hsy,tB_f (fun q=>q (hgood.2 hst))]; rfl
 rw[if_neg k0]
 have hgood:goodE caps (l.take i) l[i] ↔ (lastE l[i].1 (l.take i) 0 ≠ 0/\(¬ numK l[i].2.1->l[i].2.2.2.1=0)/\(l[i].2.1 ≠ 1->0 <= l[i].2.2.1/\l[i].2.2.1 < objK caps l[i].2.1)/\fromE (l.take i) l[i]/\ruleE caps (l.take i) l[i]):=by
  unfold goodE; rw[if_neg k0]; exact ⟨fun q=>q.2,fun q=>⟨hs,q⟩⟩
 by_cases hla:lastE l[i].1 (l.take i) 0 ≠ 0
 case neg=>rw[tB_t hla,tB_t (fun q=>hla (hgood.1 q).1)]; rfl
 rw[tB_f (fun q=>q hla)];simp only[cond_false];by_cases hfi:(¬ numK l[i].2.1->l[i].2.2.2.1=0)/\(¬ begK l[i].2.1->l[i].2.2.2.2=-1)/\(l[i].2.1=1->l[i].2.2.1=cntT (l.take i) 0)/\(l[i].2.1 ≠ 0->l[i].2.1 ≠ 1->0 <= l[i].2.2.1/\l[i].2.2.1 < objK caps l[i].2.1)
 case neg =>
  rw[tB_t hfi,tB_t]
  ·rfl
  ·intro q;obtain ⟨q1,q2,q3,q4,q5⟩:=hgood.1 q;refine hfi ⟨q2,fun r=>?_,fun r=>?_,fun _ r=>q3 r⟩
   ·unfold fromE at q4; rw[if_neg r] at q4; exact q4
   ·exact q5.1 r
 rw[tB_f (fun q=>q hfi),Y2o h hl hs hfi.2.1 k0];simp only[cond_false,bS9];by_cases hfr:fromE (l.take i) l[i]
 case neg=>rw[tB_t hfr,tB_t (fun q=>hfr (hgood.1 q).2.2.2.1)]; rfl
 have hob:2 <= l[i].2.1/\l[i].2.1 <= 7->0 <= l[i].2.2.1/\l[i].2.2.1 < caps.length:=fun q=>by
  have:=hfi.2.2.2 k0 (by omega);unfold objK at this;rw[if_pos q] at this;exact this
 rw[tB_f (fun q=>q hfr),Y3s h hl hc hG hob,Ygz (caps:=caps) h hl hs.1];simp only[cond_false,bS9,tB_cT];refine Yg8 ?_;have hr:=Yer caps (l.take i) l[i]
 have hgr:goodE caps (l.take i) l[i] ↔ ruleK l[i].2.1 caps (l.take i) l[i]:=by
  rw[hgood,hr];exact ⟨fun q=>q.2.2.2.2,fun q=>⟨hla,hfi.1,fun r=>hfi.2.2.2 k0 r,hfr,q⟩⟩
 rw[hgr];constructor
 ·rintro (q | q) r
  ·refine q ⟨?_,?_,?_,?_⟩ <;> (intro s; rw[s] at r; exact r)
  ·exact q (fun _=>r)
 ·intro q;by_cases k10:10 <= l[i].2.1
  ·exact .inr fun r=>q (r k10)
  ·refine .inl fun r=>q ?_
   obtain ⟨r3,r5,r6,r7⟩:=r;by_cases k1:l[i].2.1=1
   ·rw[k1]; exact hfi.2.2.1 k1
   by_cases k3:l[i].2.1=3
   ·rw[k3]; exact r3 k3
   by_cases k5:l[i].2.1=5
   ·rw[k5]; exact r5 k5
   by_cases k6:l[i].2.1=6
   ·rw[k6]; exact r6 k6
   by_cases k7:l[i].2.1=7
   ·rw[k7]; exact r7 k7
   generalize l[i].2.1=k at *;unfold ruleK;split <;> first | contradiction | trivial | omega
theorem Yht (caps:List Int) (l:List Ev) (hl:l.length < 30000) (hc:capsOK caps):∃ r,Zy (caps,l)=some r/\Yb caps l r:=by
 have key:=Ya3 (f:=Z64) (fun x=>∃ k:Nat,x=(caps,l,(l.length:Int),(k:Int))/\k <= l.length/\GoodL caps (l.take k))
  (fun y=>(∃ i,y=.inl i/\Yb caps l i) \/ y=.inr ()/\GoodL caps l) (fun x=>(x.2.2.1 - x.2.2.2).toNat) (by
   rintro x ⟨k,rfl,hk,hG⟩;by_cases h:k < l.length
   ·have e:Z64 (caps,l,(l.length:Int),(k:Int))=bif tB (¬ goodE caps (l.take k) l[k]) then some (.inr (.inl (k:Int))) else some (.inl (caps,l,(l.length:Int),((k+1:Nat):Int))):=by
     unfold Z64;simp only;rw[bif_t (dT9 (by omega)),Y2l h hl hc hG,wrapI (by omega) (by omega)]; rfl
    by_cases hg:goodE caps (l.take k) l[k]
    ·rw[bif_f (tB_f (fun q=>q hg))] at e;refine .inl ⟨_,e,⟨k+1,rfl,h,?_⟩,by simp only; omega⟩;refine (Ya (k+1)).2 fun i hi hik=>?_
     by_cases h2:i=k
     ·subst h2; exact hg
     ·exact (Ya k).1 hG i hi (by omega)
    ·rw[bif_t (tB_t hg)] at e;exact .inr ⟨_,e,.inl ⟨_,rfl,.inr ⟨k,h,rfl,hg,hG⟩⟩⟩
   ·obtain rfl:k=l.length:=by omega
    refine .inr ⟨.inr (),?_,.inr ⟨rfl,Y9.2 hG⟩⟩;unfold Z64;simp only;rw[bif_f (dF9 (by omega))])
 obtain ⟨y,e1,e2⟩:=key (caps,l,(l.length:Int),((0:Nat):Int)) ⟨0,rfl,Nat.zero_le _,fun i h=>by simp at h⟩;unfold Zy;rw[show loop Z64 (caps,l,((l.length:Nat):Int),0)=_ from e1];rcases e2 with ⟨i,rfl,h⟩ | ⟨rfl,h⟩
 ·exact ⟨_,rfl,h⟩
 ·exact ⟨_,rfl,.inl ⟨rfl,h⟩⟩
theorem Y3k (caps:List Int) (hn:caps.length < 30000):Zs caps=some (tB (capsOK caps)):=by
 have hf:=Ya0 (f:=Z5y) caps (fun n=>!decide (-1 <= n/\n <= 3)) (fun k=>(caps,caps,(caps.length:Int),(k:Int))) (fun k=>.inl false) (.inr caps) (by
   intro k hk;unfold Z5y;simp only;rw[bif_t (dT9 (by omega)),bif_t (Y86 hk),Yhe,getAtL _ hk,wrapI (by omega) (by omega)];generalize caps[k]=n;by_cases h1:n < -1
   ·rw[bif_t (dT9 (by exact h1)),if_pos (by simp; omega)]
   rw[bif_f (dF9 (by exact h1))];by_cases h2:n > 3
   ·rw[bif_t (dT9 h2),if_pos (by simp; omega)]
   rw[bif_f (dF9 h2),if_neg (by simp; omega)]; rfl) (by
   unfold Z5y;simp only;rw[bif_f (dF9 (by omega))])
 unfold Zs;rw[show loop Z5y (caps,caps,((caps.length:Nat):Int),0)=_ from hf];cases hfi:caps.findIdx? (fun n=>!decide (-1 <= n/\n <= 3)) with
 | none =>
  have:=List.findIdx?_eq_none_iff.1 hfi;simp only[bS9];rw[tB_dec];refine Yg8 ?_;unfold capsOK;exact ⟨fun h=>⟨by omega,fun n hn=>by simpa using this n hn⟩,fun h=>by have:=h.1; omega⟩
 | some i =>
  obtain ⟨hi,hp,_⟩:=List.findIdx?_eq_some_iff_getElem.1 hfi;simp only[bS9];rw[tB_f];intro h;have:=h.2 _ (List.getElem_mem hi);simp at hp; omega
set_option maxHeartbeats 1000000
def isN (k o n:Int) (e:Ev):Bool:=e.2.1 == k && (e.2.2.1 == o && e.2.2.2.1 == n)
def numR (l:List Ev) (k o n:Int):Int:=match l.find? (isN k o n) with
 | some e=>e.2.2.2.2
 | none=>-1
theorem Y8r {k o n:Int} {e:Ev}:isN k o n e=true ↔ e.2.1=k/\e.2.2.1=o/\e.2.2.2.1=n:=by
 unfold isN; simp
theorem numRef_eq' (l:List Ev) (hl:l.length < 30000) (k o n:Int):Z1u (l,k,o,n)=some (numR l k o n):=by
 have hf:=Ya0 (f:=Z6c) l (isN k o n) (fun j=>(k,o,n,l,(l.length:Int),(j:Int))) (fun j=>.inl (getE l j).2.2.2.2) (.inr ()) (by
   intro j hj;unfold Z6c;simp only;rw[bif_t (dT9 (by omega)),bif_t (Y86 hj),getAtE hj,wrapI (by omega) (by omega)];by_cases a:l[j].2.1=k
   ·rw[bif_t (by simpa using a)];by_cases b:l[j].2.2.1=o
    ·rw[bif_t (by simpa using b)];by_cases c:l[j].2.2.2.1=n
     ·rw[bif_t (by simpa using c),if_pos (Y8r.2 ⟨a,b,c⟩)];have:getE l (j:Int)=l[j]:=by unfold getE; simp[List.getD,hj]
      rw[this]
     ·rw[bif_f (by simpa using c),if_neg (fun q=>c (Y8r.1 q).2.2)]; rfl
    ·rw[bif_f (by simpa using b),if_neg (fun q=>b (Y8r.1 q).2.1)]; rfl
   ·rw[bif_f (by simpa using a),if_neg (fun q=>a (Y8r.1 q).1)]; rfl) (by
   unfold Z6c;simp only;rw[bif_f (dF9 (by omega))])
 unfold Z1u;simp only;rw[show loop Z6c (k,o,n,l,((l.length:Nat):Int),0)=_ from hf];unfold numR;cases hfi:l.findIdx? (isN k o n) with
 | none =>
  rw[List.find?_eq_none.2 (fun x hx=>by simpa using List.findIdx?_eq_none_iff.1 hfi x hx)];rfl
 | some i =>
  obtain ⟨h1,h2,h3⟩:=List.findIdx?_eq_some_iff_getElem.1 hfi
  have:l.find? (isN k o n)=some l[i]:=by
   rw[List.find?_eq_some_iff_getElem];exact ⟨h2,i,h1,rfl,fun j hj=>by simpa using h3 j hj⟩
  rw[this];have:getE l (i:Int)=l[i]:=by unfold getE; simp[List.getD,h1]
  simp only[bS9,this]
def isE (caps:List Int) (l:List Ev) (k i:Nat):Prop :=
 (k:Int)+1=lastE (getE l i).1 (l.take i) 0 \/
 (getE l i).2.1=0/\(k:Int)=(getE l i).2.2.2.2 \/
 (getE l i).2.1=5/\(k:Int)=numR l 3 (getE l i).2.2.1 (getE l i).2.2.2.1 \/
 (getE l i).2.1=3/\capO caps (getE l i).2.2.1 <= (getE l i).2.2.2.1/\(k:Int)=numR l 5 (getE l i).2.2.1 ((getE l i).2.2.2.1 - capO caps (getE l i).2.2.1) \/
 (getE l i).2.1=6/\(getE l k).2.1=7/\(getE l k).2.2.1=(getE l i).2.2.1 \/
 (getE l i).2.1=11/\(getE l k).2.1=12/\(getE l k).2.2.1=(getE l i).2.2.1 \/
 (getE l i).2.1=15/\(getE l k).2.1=14/\(getE l k).2.2.1=(getE l i).2.2.1
theorem Y7m {l:List Ev} {i:Nat} (h:i < l.length):getE l (i:Int)=l[i]:=by unfold getE; simp[List.getD,h]
theorem Y7t {caps:List Int} {l:List Ev} (hG:GoodL caps l) {i:Nat} (h:i < l.length):goodE caps (l.take i) (getE l i):=by
 rw[Y7m h]; exact hG i h
theorem Y8t {caps:List Int} {l:List Ev} (hc:capsOK caps) (hG:GoodL caps l) (hl:l.length < 30000) {k i:Nat} (hk:k < i) (h:i < l.length):Z1s (caps,l,(k:Int),(i:Int))=some (tB (isE caps l k i)):=by
 have hg:=Y7t hG h;have hki:k < l.length:=by omega
 unfold Z1s;simp only;rw[bif_t (Y86 h),bif_t (Y86 hki),Y9b h hl];simp only[getAtE h,getAtE hki,bS9,numRef_eq' l hl];rw[Y7m h] at hg;unfold isE;rw[Y7m h,Y7m hki];generalize hx:l[k]=x;generalize he:l[i]=e at *;generalize lastE e.1 (l.take i) 0=la;have hlk:(tB ((k:Int)=(la:Int) - 1))=tB ((k:Int)+1=la):=tB_eq ⟨fun q=>by omega,fun q=>by omega⟩;simp only[Yh0,hlk]
 have hcap:e.2.1=3->0 <= e.2.2.1/\e.2.2.1 < caps.length/\0 <= capO caps e.2.2.1/\capO caps e.2.2.1 <= 3/\0 <= e.2.2.2.1/\e.2.2.2.1 < 30000:=by
  intro q;have h2:=hg.2;rw[if_neg (by rw[q]; decide)] at h2;obtain ⟨_,_,ho,_,hr⟩:=h2;have ho:=ho (by rw[q]; decide);have hr:=hr.2.1 q;have hoK:objK caps e.2.1=caps.length:=by rw[q]; rfl
  rw[hoK] at ho;have:=Y44 (l.take i) 3 e.2.2.1;have h4:(l.take i).length <= 30000:=by simp; omega
  have h5:=Y3i hc.2 e.2.2.1;have h6:(l.take i).length=i:=by simp; omega
  exact ⟨ho.1,ho.2,hr.1,h5.2,by omega,by omega⟩
 by_cases c0:(k:Int)+1=la
 ·rw[tB_t c0,cond_true,tB_t (.inl c0)]
 rw[tB_f c0,cond_false];by_cases e0:e.2.1=0
 ·rw[tB_t e0,cond_true];by_cases c1:(k:Int)=e.2.2.2.2
  ·rw[tB_t c1,cond_true,tB_t (.inr (.inl ⟨e0,c1⟩))]
  ·rw[tB_f c1,cond_false];rw[tB_f (p:=e.2.1=5) (by omega),cond_false,tB_f (p:=e.2.1=3) (by omega),cond_false,tB_f (p:=e.2.1=6) (by omega),cond_false,tB_f (p:=e.2.1=11) (by omega),cond_false,tB_f (p:=e.2.1=15) (by omega),cond_false];rw[tB_f (by rintro (q | q | q | q | q | q | q) <;> omega)]
 rw[tB_f e0,cond_false];by_cases e5:e.2.1=5
 ·rw[tB_t e5,cond_true];exact Yg8 ⟨fun q=>.inr (.inr (.inl ⟨e5,q⟩)),fun q=>by rcases q with q | q | q | q | q | q | q <;> omega⟩
 rw[tB_f e5,cond_false];by_cases e3:e.2.1=3
 ·obtain ⟨q1,q2,q3,q4,q5,q6⟩:=hcap e3;rw[tB_t e3,cond_true,tB_inb,tB_t ⟨q1,q2⟩,cond_true];rw[Y3h caps _ q1];by_cases c3:capO caps e.2.2.1 <= e.2.2.2.1
  ·rw[bif_t (dT9 c3),cond_true,wrapI (by omega) (by omega)];exact Yg8 ⟨fun q=>.inr (.inr (.inr (.inl ⟨e3,c3,q⟩))),fun q=>by rcases q with q | q | q | q | q | q | q <;> omega⟩
  ·rw[bif_f (dF9 c3),tB_f (by rintro (q | q | q | q | q | q | q) <;> omega)]
 rw[tB_f e3,cond_false];by_cases e6:e.2.1=6
 ·rw[tB_t e6,cond_true,tB_eF];exact Yg8 ⟨fun q=>.inr (.inr (.inr (.inr (.inl ⟨e6,q⟩)))),fun q=>by rcases q with q | q | q | q | q | q | q <;> omega⟩
 rw[tB_f e6,cond_false];by_cases e11:e.2.1=11
 ·rw[tB_t e11,cond_true,tB_eF];exact Yg8 ⟨fun q=>.inr (.inr (.inr (.inr (.inr (.inl ⟨e11,q⟩))))),fun q=>by rcases q with q | q | q | q | q | q | q <;> omega⟩
 rw[tB_f e11,cond_false];by_cases e15:e.2.1=15
 ·rw[tB_t e15,cond_true,tB_eF];exact Yg8 ⟨fun q=>.inr (.inr (.inr (.inr (.inr (.inr ⟨e15,q⟩))))),fun q=>by rcases q with q | q | q | q | q | q | q <;> omega⟩
 rw[tB_f e15,cond_false,tB_f (by rintro (q | q | q | q | q | q | q) <;> omega)]
noncomputable def Y5n (caps:List Int) (l:List Ev) (i:Nat):List Int:=((List.range i).filter fun k=>tB (isE caps l k i)).map fun k:Nat=>(k:Int)
theorem Yc3 {caps:List Int} {l:List Ev} (hc:capsOK caps) (hG:GoodL caps l) (hl:l.length < 30000) {i:Nat} (h:i < l.length):Z1q (caps,l,(i:Int))=some (Y5n caps l i):=by
 have key:=Y9y (f:=Z6a) i (fun j=>(caps,l,(i:Int),(j:Int),((List.range j).filter fun k=>tB (isE caps l k i)).map fun k:Nat=>(k:Int))) (Y5n caps l i) (by
   intro j hj
   have hlen:(((List.range j).filter fun k=>tB (isE caps l k i)).map fun k:Nat=>(k:Int)).length <= j:=by
    rw[List.length_map]; have:=List.length_filter_le (fun k=>tB (isE caps l k i)) (List.range j); simpa using this
   unfold Z6a;simp only;rw[bif_t (dT9 (by omega)),Y8t hc hG hl hj h,wrapI (by omega) (by omega)];simp only[bS9];rw[List.range_succ,List.filter_append];cases hb:tB (isE caps l j i) with
   | true =>
    rw[cond_true,bif_t (Y6q.2 (by simp only[List.length_cons,List.length_nil]; omega)),List.filter_cons_of_pos (by exact hb),List.map_append];rfl
   | false =>
    rw[cond_false,List.filter_cons_of_neg (by rw[hb]; decide),List.filter_nil,List.append_nil];rfl) (by
   unfold Z6a;simp only;rw[bif_f (dF9 (by omega))]; rfl) 0 (Nat.zero_le _)
 unfold Z1q;simp only;rw[show loop Z6a (caps,l,(i:Int),0,[])=_ from key];rfl
theorem Y5q {caps:List Int} {l:List Ev} {i:Nat} {x:Int}:x ∈ Y5n caps l i ↔ ∃ k:Nat,x=k/\k < i/\isE caps l k i:=by
 unfold Y5n;rw[List.mem_map];constructor
 ·rintro ⟨k,hk,rfl⟩;have:=List.mem_filter.1 hk;exact ⟨k,rfl,List.mem_range.1 this.1,Yh3.1 this.2⟩
 ·rintro ⟨k,rfl,h1,h2⟩;exact ⟨k,List.mem_filter.2 ⟨List.mem_range.2 h1,tB_t h2⟩,rfl⟩
theorem Y5p (caps:List Int) (l:List Ev) (i:Nat):(Y5n caps l i).Pairwise (· < ·):=by
 unfold Y5n;rw[List.pairwise_map];exact (List.pairwise_lt_range.filter _).imp (fun h=>by omega)
set_option maxHeartbeats 1000000
theorem Y2x (a b:Int × (Int × Bool)):Ty.beq y9 a b=true ↔ a=b:=by
 show ((a.1 == b.1 && (a.2.1 == b.2.1 && a.2.2 == b.2.2))=true) ↔ _;obtain ⟨a1,a2,a3⟩:=a; obtain ⟨b1,b2,b3⟩:=b;simp
def lookB (o n:Int) (b:Bool) (l:List ((Int × (Int × Bool)) × Int)):Int:=mlook (Ty.beq y9) (Ty.zero (.int .i64)) (o,n,b) l
def lookG (o:Int) (l:List (Int × List Int)):List Int:=@mlook Int (List Int) (Ty.beq (.int .i64)) [] o l
theorem Y9n (o n:Int) (b:Bool) (u:Int) (o' n':Int) (b':Bool) (l:List ((Int × (Int × Bool)) × Int)) :
  lookB o' n' b' (@mput (Int × (Int × Bool)) Int (Ty.beq y9) (o,n,b) u l)=if o'=o/\n'=n/\b'=b then u else lookB o' n' b' l:=by
 refine (Ybj (α:=Int) (κ:=Int × (Int × Bool)) (z:=0) Y2x (o,n,b) u (o',n',b') l).trans ?_;show (if (o',n',b')=(o,n,b) then u else lookB o' n' b' l)=_;by_cases h:o'=o/\n'=n/\b'=b
 ·rw[if_pos h,if_pos (by rw[h.1,h.2.1,h.2.2])]
 ·rw[if_neg h,if_neg (fun e=>h ⟨congrArg Prod.fst e,congrArg (·.2.1) e,congrArg (·.2.2) e⟩)]
theorem Y9p (o:Int) (u:List Int) (o':Int) (l:List (Int × List Int)):lookG o' (@mput Int (List Int) (Ty.beq (.int .i64)) o u l)=if o'=o then u else lookG o' l:=by
 exact Ybj (α:=List Int) (κ:=Int) (z:=[]) Yhw o u o' l
theorem Ybn {κ α:Type} {eq:κ->κ->Bool} {z:α} (x:κ):∀ (l:List (κ × α)),mhas eq x l=true->mset l (mpos eq x l) (mlook eq z x l)=l
 | [],h=>by cases h
 | p :: l,h=>by
  unfold mpos mlook;cases hb:eq x p.1 with
  | true=>rw[cond_true,cond_true]; rfl
  | false =>
   rw[cond_false,cond_false];unfold mhas at h;rw[hb,cond_false] at h;show p :: mset l _ _=_;rw[Ybn x l h]
theorem Y9q {κ α:Type} {eq:κ->κ->Bool} {z:α} (x:κ):∀ (l:List (κ × α)),mhas eq x l=false->mlook eq z x l=z
 | [],h=>rfl
 | p :: l,h=>by
  unfold mhas at h;unfold mlook;cases hb:eq x p.1 with
  | true=>rw[hb,cond_true] at h; cases h
  | false =>
   rw[hb,cond_false] at h;rw[cond_false];exact Y9q x l h
theorem Y45 {l:List Ev} {a b:Nat} (h:a <= b) (k o:Int):cntE (l.take a) k o <= cntE (l.take b) k o:=by
 unfold cntE
 have:(l.take a).Sublist (l.take b):=by
  rw[show l.take a=(l.take b).take a by rw[List.take_take,Nat.min_eq_left h]];exact List.take_sublist _ _
 exact (this.filter _).length_le
theorem Y43 {l:List Ev} {j i:Nat} (hj:j < i) (h:j < l.length):cntE (l.take j) l[j].2.1 l[j].2.2.1 < cntE (l.take i) l[j].2.1 l[j].2.2.1:=by
 have:=Y45 (l:=l) (show j+1 <= i from hj) l[j].2.1 l[j].2.2.1;rw[<- List.take_append_getElem h,Y42,if_pos ⟨rfl,rfl⟩] at this;omega
theorem Y7u {caps:List Int} {l:List Ev} (hG:GoodL caps l) {i:Nat} (h:i < l.length) (hk:l[i].2.1=3 \/ l[i].2.1=5):l[i].2.2.2.1=cntE (l.take i) l[i].2.1 l[i].2.2.1/\0 <= l[i].2.2.2.2/\l[i].2.2.2.2 < i:=by
 have hg:=hG i h;have h1:=hg.1;have h2:=hg.2;rw[if_neg (by omega)] at h2;obtain ⟨_,_,_,hf,hr⟩:=h2;have hlen:(l.take i).length=i:=by simp; omega
 have hb:begK l[i].2.1:=by unfold begK; omega
 unfold fromE at hf;rw[if_pos hb] at hf;refine ⟨?_,hf.1,by have:=h1.2.2.2.2.2.2; omega⟩;rcases hk with hk | hk
 ·rw[hk]; exact (hr.2.1 hk).2.2.1
 ·rw[hk]; exact (hr.2.2.1 hk).2.1
theorem isN_in {caps:List Int} {l:List Ev} (hG:GoodL caps l) {i j:Nat} (hj:j < i) (h:i < l.length) (hk:l[i].2.1=3 \/ l[i].2.1=5):isN l[i].2.1 l[i].2.2.1 l[i].2.2.2.1 (l[j]'(by omega))=false:=by
 cases hb:isN l[i].2.1 l[i].2.2.1 l[i].2.2.2.1 (l[j]'(by omega)) with
 | false=>rfl
 | true =>
  obtain ⟨e1,e2,e3⟩:=Y8r.1 hb;have h1:=(Y7u hG h hk).1;have h2:=(Y7u hG (show j < l.length by omega) (by rw[e1]; exact hk)).1;have h3:=Y43 hj (show j < l.length by omega);rw[e1,e2] at h2 h3;omega
theorem Ybz (l:List Ev) (e:Ev) (k o n:Int):numR (l++[e]) k o n=match l.find? (isN k o n) with | some x=>x.2.2.2.2 | none=>if isN k o n e=true then e.2.2.2.2 else -1:=by
 unfold numR;rw[List.find?_append];cases l.find? (isN k o n) with
 | some x=>rfl
 | none =>
  rw[Option.none_or];cases hb:isN k o n e with
  | true=>rw[List.find?_cons_of_pos hb,if_pos rfl]
  | false=>rw[List.find?_cons_of_neg (by rw[hb]; decide),if_neg (by decide)]; rfl
theorem Yc0 {l:List Ev} {k o n:Int} (h:l.find? (isN k o n)=none):numR l k o n=-1:=by unfold numR; rw[h]
def bK (b:Bool):Int:=if b then 5 else 3
def BOK2 (l:List Ev) (B:List ((Int × (Int × Bool)) × Int)):Prop:=∀ o n b,lookB o n b B=numR l (bK b) o n+1
theorem bStep {caps:List Int} {l:List Ev} (hG:GoodL caps l) {i:Nat} (h:i < l.length) {B:List ((Int × (Int × Bool)) × Int)} (hB:BOK2 (l.take i) B) (b:Bool) (hk:l[i].2.1=bK b) :
  BOK2 (l.take (i+1)) (@mput (Int × (Int × Bool)) Int (Ty.beq y9) (l[i].2.2.1,l[i].2.2.2.1,b) (l[i].2.2.2.2+1) B):=by
 intro o n b';have hk2:l[i].2.1=3 \/ l[i].2.1=5:=by rw[hk]; cases b <;> simp[bK]
 rw[Y9n,<- List.take_append_getElem h,Ybz,hB o n b'];by_cases hc:o=l[i].2.2.1/\n=l[i].2.2.2.1/\b'=b
 ·obtain ⟨rfl,rfl,rfl⟩:=hc;rw[if_pos ⟨rfl,rfl,rfl⟩]
  have hn:(l.take i).find? (isN (bK b') l[i].2.2.1 l[i].2.2.2.1)=none:=by
   rw[List.find?_eq_none];intro x hx;obtain ⟨j,hj,rfl⟩:=List.mem_iff_getElem.1 hx;have hji:j < i:=by simp at hj; omega
   have:=isN_in hG hji h hk2;rw[hk] at this;rw[List.getElem_take,this]; decide
  rw[hn];simp only;rw[if_pos (Y8r.2 ⟨hk,rfl,rfl⟩)]
 ·rw[if_neg hc];unfold numR;cases (l.take i).find? (isN (bK b') o n) with
  | some x=>rfl
  | none =>
   simp only
   rw[if_neg (fun q=>hc (by
    obtain ⟨q1,q2,q3⟩:=Y8r.1 q;refine ⟨q2.symm,q3.symm,?_⟩;rw[hk] at q1;cases b <;> cases b' <;> simp[bK] at q1 ⊢))]
theorem bSkip {l:List Ev} {i:Nat} (h:i < l.length) {B:List ((Int × (Int × Bool)) × Int)} (hB:BOK2 (l.take i) B) (h3:l[i].2.1 ≠ 3) (h5:l[i].2.1 ≠ 5):BOK2 (l.take (i+1)) B:=by
 intro o n b;rw[<- List.take_append_getElem h,Ybz,hB o n b];unfold numR;cases (l.take i).find? (isN (bK b) o n) with
 | some x=>rfl
 | none =>
  simp only
  rw[if_neg (fun q=>by
   have:=(Y8r.1 q).1;cases b
   ·exact h3 this
   ·exact h5 this)]
theorem Ybo {caps:List Int} {l:List Ev} (hG:GoodL caps l) (hl:l.length < 30000):∃ B,Zc (caps,l)=some (caps,B,[],[],[],[])/\BOK2 l B:=by
 have key:=Ya3 (f:=Z5u) (fun x=>∃ (k:Nat) (B:List ((Int × (Int × Bool)) × Int)),x=(l,(l.length:Int),(k:Int),caps,B,[],[],[],[])/\k <= l.length/\BOK2 (l.take k) B)
  (fun y=>∃ B,y=(caps,B,[],[],[],[])/\BOK2 l B) (fun x=>(x.2.1 - x.2.2.1).toNat) (by
   rintro x ⟨k,B,rfl,hk,hB⟩;by_cases h:k < l.length
   ·left
    have step:∀ B',BOK2 (l.take (k+1)) B'->Z5u (l,(l.length:Int),(k:Int),caps,B,[],[],[],[])=some (.inl (l,(l.length:Int),((k+1:Nat):Int),caps,B',[],[],[],[])) ->
      ∃ x',Z5u (l,(l.length:Int),(k:Int),caps,B,[],[],[],[])=some (.inl x')/\(∃ (k:Nat) (B:List ((Int × (Int × Bool)) × Int)),x'=(l,(l.length:Int),(k:Int),caps,B,[],[],[],[])/\k <= l.length/\BOK2 (l.take k) B)/\(x'.2.1 - x'.2.2.1).toNat < (((l.length:Nat):Int) - (k:Int)).toNat :=
     fun B' hB' e=>⟨_,e,⟨k+1,B',rfl,h,hB'⟩,by simp only; omega⟩
    by_cases e3:l[k].2.1=3
    ·have hn:=Y7u hG h (.inl e3);refine step _ (bStep hG h hB false e3) ?_;unfold Z5u;simp only;rw[bif_t (dT9 (by omega)),bif_t (Y86 h),getAtE h,wrapI (n:=(k:Int)+1) (by omega) (by omega),wrapI (n:=l[k].2.2.2.2+1) (by omega) (by omega),bif_t (by simpa using e3),show (l[k].2.1 == 5)=false by rw[e3]; decide];rfl
    by_cases e5:l[k].2.1=5
    ·have hn:=Y7u hG h (.inr e5);refine step _ (bStep hG h hB true e5) ?_;unfold Z5u;simp only;rw[bif_t (dT9 (by omega)),bif_t (Y86 h),getAtE h,wrapI (n:=(k:Int)+1) (by omega) (by omega),wrapI (n:=l[k].2.2.2.2+1) (by omega) (by omega),bif_f (by simpa using e3),show (l[k].2.1 == 5)=true by rw[e5]; decide,cond_true];rfl
    ·refine step _ (bSkip h hB e3 e5) ?_;unfold Z5u;simp only;rw[bif_t (dT9 (by omega)),bif_t (Y86 h),getAtE h,wrapI (n:=(k:Int)+1) (by omega) (by omega),bif_f (by simpa using e3),bif_f (by simpa using e5)];rfl
   ·obtain rfl:k=l.length:=by omega
    refine .inr ⟨_,?_,B,rfl,by rwa [List.take_length] at hB⟩;unfold Z5u;simp only;rw[bif_f (dF9 (by omega))])
 obtain ⟨y,e1,B,rfl,hB⟩:=key (l,(l.length:Int),((0:Nat):Int),caps,[],[],[],[],[]) ⟨0,[],rfl,Nat.zero_le _,fun o n b=>by
  show (0:Int)=numR (l.take 0) _ _ _+1;rfl⟩
 refine ⟨B,?_,hB⟩;unfold Zc;simp only;rw[show loop Z5u (l,((l.length:Nat):Int),0,caps,[],[],[],[],[])=_ from e1];rfl
set_option maxHeartbeats 1000000
abbrev MB:=List ((Int × (Int × Bool)) × Int)
abbrev MI:=List (Int × Int)
abbrev MG:=List (Int × List Int)
def mineOf (at1:List Int) (i:Nat):List Int:=(at1.filter fun v:Int=>decide (0 < v/\v <= (i:Int))).map fun v:Int=>v - 1
theorem Yaz {at1:List Int} {i:Nat} {x:Int}:x ∈ mineOf at1 i ↔ ∃ j:Nat,x=j/\j < i/\(j:Int)+1 ∈ at1:=by
 unfold mineOf;rw[List.mem_map];constructor
 ·rintro ⟨v,hv,rfl⟩;have h:=List.mem_filter.1 hv;have h2:=of_decide_eq_true h.2;refine ⟨(v - 1).toNat,by omega,by omega,?_⟩;rw[show (((v - 1).toNat:Nat):Int)+1=v by omega];exact h.1
 ·rintro ⟨j,rfl,h1,h2⟩;exact ⟨(j:Int)+1,List.mem_filter.2 ⟨h2,dT9 (by omega)⟩,by omega⟩
theorem Yay (at1:List Int) (i:Nat):(mineOf at1 i).length <= at1.length:=by
 unfold mineOf; rw[List.length_map]; exact List.length_filter_le _ _
theorem Yc4 (at1:List Int) (e:Ev) (i:Nat) (caps:List Int) (B:MB) (cl en:MI) (gv:MG) (la:MI) (hi:i < 30000) (ha:at1.length <= 90000) :
  loop Z5s ((at1.length:Int),0,e,(i:Int),caps,B,cl,en,gv,la,at1,[])=some (.inr (e,(i:Int),caps,B,cl,en,gv,la,mineOf at1 i)):=by
 have key:=Y9y (f:=Z5s) at1.length (fun j=>((at1.length:Int),(j:Int),e,(i:Int),caps,B,cl,en,gv,la,at1,mineOf (at1.take j) i)) (.inr (e,(i:Int),caps,B,cl,en,gv,la,mineOf at1 i)) (by
   intro j hj;have hl:=Yay (at1.take j) i;have hl2:(at1.take j).length <= 90000:=by simp; omega
   have ht:∀ v,mineOf (at1.take j++[v]) i=mineOf (at1.take j) i++if 0 < v/\v <= (i:Int) then [v - 1] else []:=by
    intro v;unfold mineOf;rw[List.filter_append,List.map_append];congr 1;by_cases hv:0 < v/\v <= (i:Int)
    ·rw[if_pos hv,List.filter_cons_of_pos (by exact dT9 hv)]; rfl
    ·rw[if_neg hv,List.filter_cons_of_neg (by simpa using hv)]; rfl
   unfold Z5s;simp only;rw[bif_t (dT9 (by omega)),bif_t (Y86 hj),Yhe,getAtL _ hj,wrapI (n:=(j:Int)+1) (by omega) (by omega),<- List.take_append_getElem hj,ht];generalize at1[j]=v;by_cases h1:v > 0
   ·rw[bif_t (dT9 h1)];by_cases h2:v <= (i:Int)
    ·rw[bif_t (dT9 h2),if_pos ⟨h1,h2⟩];unfold Z2;simp only;rw[bif_t (Y6q.2 (by simp only[List.length_cons,List.length_nil]; omega)),wrapI (by omega) (by omega)];rfl
    ·rw[bif_f (dF9 h2),if_neg (fun q=>h2 q.2),List.append_nil]; rfl
   ·rw[bif_f (dF9 h1),if_neg (fun q=>h1 q.1),List.append_nil]; rfl) (by
   unfold Z5s;simp only;rw[bif_f (dF9 (by omega)),List.take_length]) 0 (Nat.zero_le _)
 exact key
def atOf (caps:List Int) (e:Ev) (B:MB) (cl en:MI) (gv:MG) (la:MI):List Int :=
 lookF e.1 la :: (if e.2.1=0 then [e.2.2.2.2+1] else if e.2.1=5 then [lookB e.2.2.1 e.2.2.2.1 false B] else if e.2.1=3 then [lookB e.2.2.1 (e.2.2.2.1 - capO caps e.2.2.1) true B]
  else if e.2.1=6 then [lookF e.2.2.1 cl] else if e.2.1=11 then lookG e.2.2.1 gv else if e.2.1=15 then [lookF e.2.2.1 en] else [])
theorem of1_eq (caps:List Int) (e:Ev) (i:Nat) (B:MB) (cl en:MI) (gv:MG) (la:MI) (hi:i < 30000) (hs:-1 <= e.2.2.2.2/\e.2.2.2.2 < 30000) (hg:(lookG e.2.2.1 gv).length <= 30000)
  (h3:e.2.1=3->0 <= e.2.2.1/\e.2.2.1 < caps.length/\-1 <= capO caps e.2.2.1/\capO caps e.2.2.1 <= 3/\0 <= e.2.2.2.1/\e.2.2.2.1 < 30000) :
  Z9 (e,(i:Int),caps,B,cl,en,gv,la,[])=some (0,e,(i:Int),caps,B,cl,en,gv,la,mineOf (atOf caps e B cl en gv la) i):=by
 have hL:=fun at1 ha=>Yc4 at1 e i caps B cl en gv la hi ha
 have hlf:@mlook Int Int (Ty.beq (.int .i64)) (Ty.zero (.int .i64)) e.1 la=lookF e.1 la:=rfl;unfold Z9 atOf;simp only[hlf];by_cases e0:e.2.1=0
 ·rw[bif_t (by simpa using e0),wrapI (by omega) (by omega),if_pos e0,hL _ (by simp)]; rfl
 rw[bif_f (by simpa using e0),if_neg e0];by_cases e5:e.2.1=5
 ·rw[bif_t (by simpa using e5),if_pos e5];unfold Z4;simp only;rw[bif_t (by simpa using e5)];simp only[bS9];rw[hL _ (by simp)]; rfl
 rw[bif_f (by simpa using e5),if_neg e5];by_cases e3:e.2.1=3
 ·obtain ⟨q1,q2,q3,q4,q5,q6⟩:=h3 e3;rw[bif_t (by simpa using e3),if_pos e3];unfold Z4;simp only;rw[bif_f (by simpa using e5),tB_inb,tB_t ⟨q1,q2⟩,cond_true,Y3h caps _ q1,wrapI (by omega) (by omega)];simp only[bS9];rw[hL _ (by simp)]; rfl
 rw[bif_f (by simpa using e3),if_neg e3];by_cases e6:e.2.1=6
 ·rw[bif_t (by simpa using e6),if_pos e6,hL _ (by simp)]; rfl
 rw[bif_f (by simpa using e6),if_neg e6];by_cases e11:e.2.1=11
 ·rw[bif_t (by simpa using e11),if_pos e11];cases hh:@mhas Int (List Int) (Ty.beq (.int .i64)) e.2.2.1 gv with
  | true =>
   have hg':(@mlook Int (List Int) (Ty.beq (.int .i64)) [] e.2.2.1 gv).length <= 30000:=hg;rw[cond_true,bif_t (Y6q.2 (by simp only[List.length_cons,List.length_nil]; omega)),Ybn _ _ hh,hL _ (by simp only[List.length_append,List.length_cons,List.length_nil]; omega)];rfl
  | false =>
   rw[cond_false,show lookG e.2.2.1 gv=[] from Y9q _ _ hh,hL _ (by simp)];rfl
 rw[bif_f (by simpa using e11),if_neg e11];by_cases e15:e.2.1=15
 ·rw[bif_t (by simpa using e15),if_pos e15,hL _ (by simp)]; rfl
 rw[bif_f (by simpa using e15),if_neg e15,hL _ (by simp)]; rfl
structure IX (l:List Ev) (k:Nat) (B:MB) (cl en:MI) (gv:MG) (la:MI):Prop where
 b:BOK2 l B
 c:∀ o (j:Nat),lookF o cl=(j:Int)+1 ↔ j < k/\(getE l j).2.1=7/\(getE l j).2.2.1=o
 e:∀ o (j:Nat),lookF o en=(j:Int)+1 ↔ j < k/\(getE l j).2.1=14/\(getE l j).2.2.1=o
 g:∀ o (j:Nat),(j:Int)+1 ∈ lookG o gv ↔ j < k/\(getE l j).2.1=12/\(getE l j).2.2.1=o
 gl:∀ o,(lookG o gv).length <= k
 la:∀ g,lookF g la=lastE g (l.take k) 0
theorem Ybw {l:List Ev} {k:Nat} (hk:k <= l.length) {K o:Int} (h:cntE (l.take k) K o=0) (j:Nat) (hj:j < k):¬ ((getE l j).2.1=K/\(getE l j).2.2.1=o):=by
 rintro ⟨rfl,rfl⟩;have:=Y43 hj (show j < l.length by omega);rw[Y7m (show j < l.length by omega)] at h;omega
theorem Yda {l:List Ev} {k:Nat} (h:k < l.length) {m:MI} {K:Int} (hm:∀ o (j:Nat),lookF o m=(j:Int)+1 ↔ j < k/\(getE l j).2.1=K/\(getE l j).2.2.1=o) (hK:l[k].2.1=K) (h0:cntE (l.take k) K l[k].2.2.1=0) :
  ∀ o (j:Nat),lookF o (@mput Int Int (Ty.beq (.int .i64)) l[k].2.2.1 ((k:Int)+1) m)=(j:Int)+1 ↔ j < k+1/\(getE l j).2.1=K/\(getE l j).2.2.1=o:=by
 intro o j;rw[Y9o];by_cases ho:o=l[k].2.2.1
 ·rw[if_pos ho];constructor
  ·intro q;obtain rfl:j=k:=by omega
   rw[Y7m h];exact ⟨by omega,hK,ho.symm⟩
  ·rintro ⟨q1,q2,q3⟩;rcases Nat.lt_or_ge j k with q | q
   ·exact absurd ⟨q2,by rw[q3,ho]⟩ (Ybw (by omega) h0 j q)
   ·omega
 ·rw[if_neg ho,hm];constructor
  ·rintro ⟨q1,q2⟩; exact ⟨by omega,q2⟩
  ·rintro ⟨q1,q2,q3⟩;refine ⟨?_,q2,q3⟩;rcases Nat.lt_or_ge j k with q | q
   ·exact q
   ·obtain rfl:j=k:=by omega
    rw[Y7m h] at q3;exact absurd q3.symm ho
theorem Ydd {l:List Ev} {k:Nat} (h:k < l.length) {K:Int} (hK:l[k].2.1 ≠ K) (o:Int) (j:Nat):(j < k+1/\(getE l j).2.1=K/\(getE l j).2.2.1=o) ↔ (j < k/\(getE l j).2.1=K/\(getE l j).2.2.1=o):=by
 constructor
 ·rintro ⟨q1,q2,q3⟩;refine ⟨?_,q2,q3⟩;rcases Nat.lt_or_ge j k with q | q
  ·exact q
  ·obtain rfl:j=k:=by omega
   rw[Y7m h] at q2;exact absurd q2 hK
 ·rintro ⟨q1,q2⟩; exact ⟨by omega,q2⟩
theorem Yby {caps:List Int} {l:List Ev} (hG:GoodL caps l) (hl:l.length < 30000) {k:Nat} (h:k < l.length) {B:MB} {cl en:MI} {gv:MG} {la:MI} (hI:IX l k B cl en gv la) :
  ∃ cl' en' gv' la',Z6 ((k:Int),l[k],caps,B,cl,en,gv,la)=some (caps,B,cl',en',gv',la')/\IX l (k+1) B cl' en' gv' la':=by
 have hg:=hG k h;have hlen:(l.take k).length=k:=by simp; omega
 have hla:∀ g,lookF g (@mput Int Int (Ty.beq (.int .i64)) l[k].1 ((k:Int)+1) la)=lastE g (l.take (k+1)) 0:=by
  intro g;rw[Y9o,<- List.take_append_getElem h,Y97,hlen];by_cases q:g=l[k].1
  ·rw[if_pos q,if_pos q.symm]; omega
  ·rw[if_neg q,if_neg (fun e=>q e.symm)]; exact hI.la g
 have hgl:∀ o,(lookG o gv).length <= k+1:=fun o=>Nat.le_succ_of_le (hI.gl o)
 have hr:l[k].2.1=7 \/ l[k].2.1=14->ruleE caps (l.take k) l[k]:=by
  intro q;have h2:=hg.2;rw[if_neg (by omega)] at h2;exact h2.2.2.2.2
 unfold Z6;simp only;rw[wrapI (n:=(k:Int)+1) (by omega) (by omega)];by_cases e7:l[k].2.1=7
 ·rw[bif_t (by simpa using e7)];have h0:=((hr (.inl e7)).2.2.2.2.1 e7).2;refine ⟨_,_,_,_,rfl,hI.b,Yda h hI.c e7 h0,fun o j=>?_,fun o j=>?_,hgl,hla⟩
  ·rw[hI.e,Ydd h (by omega)]
  ·rw[hI.g,Ydd h (by omega)]
 rw[bif_f (by simpa using e7)];by_cases e14:l[k].2.1=14
 ·rw[bif_t (by simpa using e14)];have h0:=((hr (.inr e14)).2.2.2.2.2.2.2.1 e14).1;refine ⟨_,_,_,_,rfl,hI.b,fun o j=>?_,Yda h hI.e e14 h0,fun o j=>?_,hgl,hla⟩
  ·rw[hI.c,Ydd h (by omega)]
  ·rw[hI.g,Ydd h (by omega)]
 rw[bif_f (by simpa using e14)];by_cases e12:l[k].2.1=12
 ·rw[bif_t (by simpa using e12)]
  have key:∀ gv',(∀ o,lookG o gv'=if o=l[k].2.2.1 then lookG o gv++[(k:Int)+1] else lookG o gv)->(∀ o (j:Nat),(j:Int)+1 ∈ lookG o gv' ↔ j < k+1/\(getE l j).2.1=12/\(getE l j).2.2.1=o)/\∀ o,(lookG o gv').length <= k+1:=by
   intro gv' hv;constructor
   ·intro o j;rw[hv];by_cases ho:o=l[k].2.2.1
    ·rw[if_pos ho,List.mem_append,hI.g,List.mem_singleton];constructor
     ·rintro (⟨q1,q2⟩ | q)
      ·exact ⟨by omega,q2⟩
      ·obtain rfl:j=k:=by omega
       rw[Y7m h];exact ⟨by omega,e12,ho.symm⟩
     ·rintro ⟨q1,q2,q3⟩;rcases Nat.lt_or_ge j k with q | q
      ·exact .inl ⟨q,q2,q3⟩
      ·right; omega
    ·rw[if_neg ho,hI.g];constructor
     ·rintro ⟨q1,q2⟩; exact ⟨by omega,q2⟩
     ·rintro ⟨q1,q2,q3⟩;refine ⟨?_,q2,q3⟩;rcases Nat.lt_or_ge j k with q | q
      ·exact q
      ·obtain rfl:j=k:=by omega
       rw[Y7m h] at q3;exact absurd q3.symm ho
   ·intro o;rw[hv];have:=hI.gl o;split
    ·rw[List.length_append,List.length_singleton]; omega
    ·omega
  cases hh:@mhas Int (List Int) (Ty.beq (.int .i64)) l[k].2.2.1 gv with
  | true =>
   have hgk:(@mlook Int (List Int) (Ty.beq (.int .i64)) [] l[k].2.2.1 gv).length <= k:=hI.gl _;rw[cond_true,bif_t (Y6q.2 (by simp only[List.length_cons,List.length_nil]; omega)),bif_t (by simp)]
   have hk:=key _ (fun o=>by
    rw[Y9p];by_cases ho:o=l[k].2.2.1
    ·rw[if_pos ho,if_pos ho,ho]
     try rfl
    ·rw[if_neg ho,if_neg ho])
   refine ⟨_,_,_,_,rfl,hI.b,fun o j=>?_,fun o j=>?_,hk.1,hk.2,hla⟩
   ·rw[hI.c,Ydd h (by omega)]
   ·rw[hI.e,Ydd h (by omega)]
  | false =>
   rw[cond_false]
   have hk:=key _ (fun o=>by
    rw[Y9p];by_cases ho:o=l[k].2.2.1
    ·rw[if_pos ho,if_pos ho,ho,show lookG l[k].2.2.1 gv=[] from Y9q _ _ hh]
     try rfl
    ·rw[if_neg ho,if_neg ho])
   refine ⟨_,_,_,_,rfl,hI.b,fun o j=>?_,fun o j=>?_,hk.1,hk.2,hla⟩
   ·rw[hI.c,Ydd h (by omega)]
   ·rw[hI.e,Ydd h (by omega)]
 ·rw[bif_f (by simpa using e12)];refine ⟨_,_,_,_,rfl,hI.b,fun o j=>?_,fun o j=>?_,fun o j=>?_,hgl,hla⟩
  ·rw[hI.c,Ydd h (by omega)]
  ·rw[hI.e,Ydd h (by omega)]
  ·rw[hI.g,Ydd h (by omega)]
set_option maxHeartbeats 1000000
theorem at_iff {caps:List Int} {l:List Ev} (hG:GoodL caps l) {k:Nat} (h:k < l.length) {B:MB} {cl en:MI} {gv:MG} {la:MI} (hI:IX l k B cl en gv la) {j:Nat} (hj:j < k) :
  (j:Int)+1 ∈ atOf caps l[k] B cl en gv la ↔ isE caps l j k:=by
 have hneg:∀ o n,n < 0->numR l 5 o n=-1:=by
  intro o n hn;apply Yc0;rw[List.find?_eq_none];intro x hx;obtain ⟨i,hi,rfl⟩:=List.mem_iff_getElem.1 hx;have:=(hG i hi).1.2.2.2.2.1;intro q;have:=(Y8r.1 q).2.2;omega
 unfold atOf isE;rw[Y7m h];rw[List.mem_cons,hI.la];generalize he:l[k]=e at *;refine or_congr Iff.rfl ?_;by_cases e0:e.2.1=0
 ·rw[if_pos e0,List.mem_singleton];exact ⟨fun q=>.inl ⟨e0,by omega⟩,fun q=>by rcases q with q | q | q | q | q | q <;> omega⟩
 rw[if_neg e0];by_cases e5:e.2.1=5
 ·rw[if_pos e5,List.mem_singleton,hI.b];show (j:Int)+1=numR l 3 _ _+1 ↔ _;exact ⟨fun q=>.inr (.inl ⟨e5,by omega⟩),fun q=>by rcases q with q | q | q | q | q | q <;> omega⟩
 rw[if_neg e5];by_cases e3:e.2.1=3
 ·rw[if_pos e3,List.mem_singleton,hI.b];show (j:Int)+1=numR l 5 _ _+1 ↔ _;constructor
  ·intro q;refine .inr (.inr (.inl ⟨e3,?_,by omega⟩));rcases Int.lt_or_le e.2.2.2.1 (capO caps e.2.2.1) with q2 | q2
   ·rw[hneg _ _ (by omega)] at q; omega
   ·exact q2
  ·intro q;rcases q with q | q | q | q | q | q <;> omega
 rw[if_neg e3];by_cases e6:e.2.1=6
 ·rw[if_pos e6,List.mem_singleton];rw[show ((j:Int)+1=lookF e.2.2.1 cl) ↔ _ from eq_comm.trans (hI.c _ _)];exact ⟨fun q=>.inr (.inr (.inr (.inl ⟨e6,q.2⟩))),fun q=>by rcases q with q | q | q | q | q | q <;> first | omega | exact ⟨hj,q.2⟩⟩
 rw[if_neg e6];by_cases e11:e.2.1=11
 ·rw[if_pos e11,hI.g];exact ⟨fun q=>.inr (.inr (.inr (.inr (.inl ⟨e11,q.2⟩)))),fun q=>by rcases q with q | q | q | q | q | q <;> first | omega | exact ⟨hj,q.2⟩⟩
 rw[if_neg e11];by_cases e15:e.2.1=15
 ·rw[if_pos e15,List.mem_singleton];rw[show ((j:Int)+1=lookF e.2.2.1 en) ↔ _ from eq_comm.trans (hI.e _ _)];exact ⟨fun q=>.inr (.inr (.inr (.inr (.inr ⟨e15,q.2⟩)))),fun q=>by rcases q with q | q | q | q | q | q <;> first | omega | exact ⟨hj,q.2⟩⟩
 rw[if_neg e15];exact ⟨fun q=>by simp at q,fun q=>by rcases q with q | q | q | q | q | q <;> omega⟩
theorem Y5s {caps:List Int} {l:List Ev} (hG:GoodL caps l) {k:Nat} (h:k < l.length) {B:MB} {cl en:MI} {gv:MG} {la:MI} (hI:IX l k B cl en gv la) :
  Y4c (Yge (mineOf (atOf caps l[k] B cl en gv la) k) 0 (mineOf (atOf caps l[k] B cl en gv la) k).length)=Y5n caps l k:=by
 refine Y4k _ _ (Y5p caps l k) fun x=>?_
 rw[Y5q,Yaz];constructor
 ·rintro ⟨j,rfl,h1,h2⟩; exact ⟨j,rfl,h1,(at_iff hG h hI h1).2 h2⟩
 ·rintro ⟨j,rfl,h1,h2⟩; exact ⟨j,rfl,h1,(at_iff hG h hI h1).1 h2⟩
theorem Y5o (caps:List Int) (l:List Ev) (k:Nat):(Y5n caps l k).length <= k:=by
 unfold Y5n;rw[List.length_map];have:=List.length_filter_le (fun j=>tB (isE caps l j k)) (List.range k);simpa using this
theorem Y1o {caps:List Int} {l:List Ev} (hc:capsOK caps) (hG:GoodL caps l) (hl:l.length < 29000):Z0 (caps,l)=some ((List.range l.length).map (Y5n caps l),0):=by
 obtain ⟨B,hB1,hB2⟩:=Ybo hG (show l.length < 30000 by omega)
 have key:=Ya3 (f:=Z5q) (fun x=>∃ (k:Nat) (cl en:MI) (gv:MG) (la:MI),x=(l,(l.length:Int),(k:Int),caps,B,cl,en,gv,la,(List.range k).map (Y5n caps l))/\k <= l.length/\IX l k B cl en gv la)
  (fun y=>y=.inr ((List.range l.length).map (Y5n caps l))) (fun x=>(x.2.1 - x.2.2.1).toNat) (by
   rintro x ⟨k,cl,en,gv,la,rfl,hk,hI⟩;by_cases h:k < l.length
   ·left;obtain ⟨cl',en',gv',la',n1,n2⟩:=Yby hG (show l.length < 30000 by omega) h hI;refine ⟨_,?_,⟨k+1,cl',en',gv',la',rfl,h,n2⟩,by simp only; omega⟩;have hg:=hG k h;have hlen:(l.take k).length=k:=by simp; omega
    have hs:=hg.1.2.2.2.2.2
    have h3:l[k].2.1=3->0 <= l[k].2.2.1/\l[k].2.2.1 < caps.length/\-1 <= capO caps l[k].2.2.1/\capO caps l[k].2.2.1 <= 3/\0 <= l[k].2.2.2.1/\l[k].2.2.2.1 < 30000:=by
     intro q;have h2:=hg.2;rw[if_neg (by rw[q]; decide)] at h2;have ho:=h2.2.2.1 (by rw[q]; decide);have hoK:objK caps l[k].2.1=caps.length:=by rw[q]; rfl
     rw[hoK] at ho;have h5:=Y3i hc.2 l[k].2.2.1;have h6:=(Y7u hG h (.inl q)).1;have h7:=Y44 (l.take k) l[k].2.1 l[k].2.2.1;exact ⟨ho.1,ho.2,h5.1,h5.2,by omega,by omega⟩
    have hg1:=of1_eq caps l[k] k B cl en gv la (by omega) ⟨hs.1,by omega⟩ (by have:=hI.gl l[k].2.2.1; omega) h3;have hm:=Yay (atOf caps l[k] B cl en gv la) k
    have ha:(atOf caps l[k] B cl en gv la).length <= 60000:=by
     unfold atOf;rw[List.length_cons];have:=hI.gl l[k].2.2.1
     repeat' split
     all_goals first | (simp only[List.length_cons,List.length_nil]; omega) | omega
    have hsl:(Yge (mineOf (atOf caps l[k] B cl en gv la) k) 0 (mineOf (atOf caps l[k] B cl en gv la) k).length).length <= 60000:=by
     rw[Ygf,Yga]; omega
    unfold Z5q;simp only;rw[bif_t (dT9 (by omega)),bif_t (Y86 h),getAtE h];unfold Z8;simp only[bS9];rw[hg1];simp only[bS9];rw[bif_t (by rfl),bif_t (Y6q.2 (by omega)),bif_t (Y6q.2 (by omega)),Y5s hG h hI,bif_t (Y6q.2 (by simp only[List.length_cons,List.length_nil,List.length_map,List.length_range]; omega)),n1,wrapI (by omega) (by omega)];simp only[bS9];rw[List.range_succ,List.map_append];rfl
   ·obtain rfl:k=l.length:=by omega
    refine .inr ⟨_,?_,rfl⟩;unfold Z5q;simp only;rw[bif_f (dF9 (by omega))])
 have h0:IX l 0 B [] [] [] []:=by
  refine ⟨hB2,fun o j=>?_,fun o j=>?_,fun o j=>?_,fun o=>?_,fun g=>?_⟩
  ·show (0:Int)=(j:Int)+1 ↔ _;constructor
   ·intro q; omega
   ·rintro ⟨q,_⟩; omega
  ·show (0:Int)=(j:Int)+1 ↔ _;constructor
   ·intro q; omega
   ·rintro ⟨q,_⟩; omega
  ·show (j:Int)+1 ∈ ([]:List Int) ↔ _;constructor
   ·intro q; simp at q
   ·rintro ⟨q,_⟩; omega
  ·exact Nat.zero_le _
  ·rfl
 obtain ⟨y,e1,rfl⟩:=key (l,(l.length:Int),((0:Nat):Int),caps,B,[],[],[],[],[]) ⟨0,[],[],[],[],rfl,Nat.zero_le _,h0⟩;obtain ⟨r,e,w1,w2⟩:=Yi1 caps l (by have:=hc.1; omega) (by omega);rcases w2 with ⟨_,rfl,hw⟩ | ⟨q,_⟩
 case inr=>exact absurd hc q
 obtain rfl:r=-1:=hw.uniq (.inl ⟨rfl,hG⟩);unfold Z0;simp only;rw[w1];simp only[bS9];rw[bif_f (by rfl),bif_f (by rfl),hB1];simp only[bS9];rw[show loop Z5q (l,((l.length:Nat):Int),0,caps,B,[],[],[],[],[])=_ from e1];rfl
theorem Y1n {caps:List Int} {l:List Ev} (hn:caps.length < 30000) (hl:l.length < 29000) (h:¬ (capsOK caps/\GoodL caps l)):Z0 (caps,l)=some ([],1):=by
 obtain ⟨r,e,w1,w2⟩:=Yi1 caps l hn (by omega);unfold Z0;simp only;rw[w1];simp only[bS9];rcases w2 with ⟨hc,rfl,hw⟩ | ⟨_,rfl,_⟩
 ·rw[bif_f (by rfl)];rcases hw with ⟨rfl,hG⟩ | ⟨i,hi,rfl,_,_⟩
  ·exact absurd ⟨hc,hG⟩ h
  ·rw[bif_t (dT9 (by omega))]
 ·rw[bif_t (by rfl)]
theorem Yao (caps:List Int) (l:List Ev) (hn:caps.length < 30000) (hl:l.length < 29000):Z1o (caps,l)=some (tB (capsOK caps/\GoodL caps l)):=by
 unfold Z1o;simp only;rw[Y3k caps hn];simp only[bS9];by_cases hc:capsOK caps
 ·rw[tB_t hc,cond_true];obtain ⟨r,w1,w2⟩:=Yht caps l (by omega) hc;rw[w1];simp only[bS9];rw[tB_dec];refine Yg8 ?_;rcases w2 with ⟨rfl,hG⟩ | ⟨i,hi,rfl,hg,_⟩
  ·exact ⟨fun _=>⟨hc,hG⟩,fun _=>by decide⟩
  ·exact ⟨fun q=>by omega,fun q=>absurd (q.2 i hi) hg⟩
 ·rw[tB_f hc,cond_false,tB_f (fun q=>hc q.1)]
theorem Yeq (a:List Int) (h:a.length < 30000):Zq (a,a)=some true:=by
 have key:=Y9y (f:=Z5w) a.length (fun k=>(a,a,(a.length:Int),(k:Int))) (.inr ()) (by
   intro k hk;unfold Z5w;simp only;rw[bif_t (dT9 (by omega)),bif_t (Y86 hk),bif_t (Y86 hk),bif_f (by simp),wrapI (by omega) (by omega)];rfl) (by
   unfold Z5w;simp only;rw[bif_f (dF9 (by omega))]) 0 (Nat.zero_le _)
 unfold Zq;simp only;rw[bif_f (by simp),show loop Z5w (a,a,((a.length:Nat):Int),0)=_ from key];rfl
set_option maxHeartbeats 1000000
def RC (c:List Int):Prop:=c.length <= 16/\∀ n ∈ c,0 <= n/\n <= 1099511627776
theorem Yea (n:Int):Z59 n=some (decide (0 <= n/\n <= 1099511627776)):=by
 unfold Z59;by_cases h1:n ≥ 0
 ·rw[bif_t (dT9 h1)];exact decE ⟨fun q=>⟨h1,q⟩,fun q=>q.2⟩
 ·rw[bif_f (dF9 h1)];exact decF (fun q=>h1 q.1)
theorem any_eq (c:List Int) (h:c.length < 30000):Z36 c=some (tB (¬ ∀ n ∈ c,0 <= n/\n <= 1099511627776)):=by
 have hf:=Ya0 (f:=Z7c) c (fun n=>!decide (0 <= n/\n <= 1099511627776)) (fun k=>(c,(c.length:Int),(k:Int))) (fun k=>.inl (k:Int)) (.inr ()) (by
   intro k hk;unfold Z7c Z5f;simp only;rw[bif_t (dT9 (by omega)),bif_t (Y86 hk),Yhe,getAtL _ hk,Yea,wrapI (by omega) (by omega)];simp only[bS9];cases (!decide (0 <= c[k]/\c[k] <= 1099511627776)) <;> rfl) (by
   unfold Z7c;simp only;rw[bif_f (dF9 (by omega))])
 unfold Z36 Z3g;rw[show loop Z7c (c,((c.length:Nat):Int),0)=_ from hf];cases hfi:c.findIdx? (fun n=>!decide (0 <= n/\n <= 1099511627776)) with
 | none =>
  have:=List.findIdx?_eq_none_iff.1 hfi;simp only[bS9];rw[tB_dec];refine Yg8 ⟨fun q=>by omega,fun q=>absurd (fun n hn=>?_) q⟩;simpa using this n hn
 | some i =>
  obtain ⟨h1,h2,_⟩:=List.findIdx?_eq_some_iff_getElem.1 hfi;simp only[bS9];rw[tB_dec];refine Yg8 ⟨fun _ q=>?_,fun _=>by omega⟩;have:=q c[i] (List.getElem_mem h1);simp at h2;omega
theorem right_eq' (c:List Int):Z58 c=some (tB (RC c)):=by
 unfold Z58;by_cases h:((c.length:Nat):Int) <= 16
 ·rw[bif_t (dT9 h)];unfold Z5i;rw[any_eq c (by omega)];simp only[bS9];rw[tB_not];refine Yg8 ?_;unfold RC;constructor
  ·intro q; exact ⟨by omega,Classical.not_not.1 q⟩
  ·intro q q2; exact q2 q.2
 ·rw[bif_f (dF9 h),tB_f (fun q=>h (by have:=q.1; omega))]
theorem Y39 (a b:List Int):Z5k [a,b]=some (tB (RC a/\RC b)):=by
 have hf:=Ya0 (f:=Z78) [a,b] (fun c=>tB (¬ RC c)) (fun k=>([a,b],(2:Int),(k:Int))) (fun k=>.inl (k:Int)) (.inr ()) (by
   intro k hk;have hk2:k < 2:=hk;unfold Z78 Z5e;simp only;rw[bif_t (dT9 (by omega)),bif_t (Y86 hk),Yhe,getAtL _ hk,right_eq',wrapI (by omega) (by omega)];simp only[bS9,tB_not];cases tB (¬ RC [a,b][k]) <;> rfl) (by
   unfold Z78;simp only;rw[bif_f (dF9 (by show ¬ ((2:Nat):Int) < 2; omega))])
 unfold Z5k Z32 Z3c;rw[show loop Z78 ([a,b],(([a,b].length:Nat):Int),0)=_ from hf];by_cases ha:RC a
 ·by_cases hb:RC b
  ·rw[tB_t ⟨ha,hb⟩];simp only[List.findIdx?_cons,List.findIdx?_nil,tB_f (fun q:¬ RC a=>q ha),tB_f (fun q:¬ RC b=>q hb)];rfl
  ·rw[tB_f (fun q=>hb q.2)];simp only[List.findIdx?_cons,List.findIdx?_nil,tB_f (fun q:¬ RC a=>q ha),tB_t hb];rfl
 ·rw[tB_f (fun q=>ha q.1)];simp only[List.findIdx?_cons,List.findIdx?_nil,tB_t ha];rfl
set_option maxHeartbeats 1000000
def atC (c:List Int) (g:Nat):Int:=c.getD g 0
def wC (c:List Int):List Int:=(List.range 16).map (atC c)
theorem wC_len (c:List Int):(wC c).length=16:=by unfold wC; simp
def trimN (w:List Int):Nat->Nat
 | 0=>0
 | k+1=>if w.getD k 0=0 then trimN w k else k+1
theorem Yhg (w:List Int):∀ k,trimN w k <= k
 | 0=>Nat.le_refl _
 | k+1=>by
  unfold trimN;have:=Yhg w k;split <;> omega
def trimC (w:List Int):List Int:=w.take (trimN w w.length)
theorem Yhx (x:List Int) (h:x.length <= 4294967296):Z30 x=some x:=by
 unfold Z30;have hf:fits ((List.length ([]:List Int))+x.length)=true:=Y6q.2 (by simp only[List.length_nil]; omega);rw[bif_t hf,List.nil_append];cases hb:Nat.beq x.length 0 with
 | true =>
  have h0:=Nat.eq_of_beq_eq_true hb;have hx:x=[]:=List.eq_nil_of_length_eq_zero h0;subst hx;rw[cond_true];unfold amb;rw[if_pos rfl]
 | false=>rw[cond_false]
theorem Yhi (w:List Int) (hw:w.length=16):∀ k:Nat,k <= 16->loop Z7s ((k:Int),w)=some (((trimN w k:Nat):Int),w)
 | 0,_=>by
  rw[Y9z]
  have:Z7s (((0:Nat):Int),w)=some (.inr (((0:Nat):Int),w)):=by
   unfold Z7s;simp only;rw[bif_f (dF9 (by omega))]
  rw[this]; rfl
 | k+1,hk=>by
  have hkw:k < w.length:=by omega
  have e:Z7s (((k+1:Nat):Int),w)=if w.getD k 0=0 then some (.inl ((k:Int),w)) else some (.inr (((k+1:Nat):Int),w)):=by
   unfold Z7s;simp only;rw[wrapI (by omega) (by omega),show ((k+1:Nat):Int) - 1=(k:Int) by omega,bif_t (dT9 (by omega)),bif_t (Y86 (by omega)),Yhe,Y7i];by_cases h0:w.getD k 0=0
   ·rw[bif_t (by simpa using h0),if_pos h0]
   ·rw[bif_f (by simpa using h0),if_neg h0]
  rw[Y9z,e];unfold trimN;by_cases h0:w.getD k 0=0
  ·rw[if_pos h0,if_pos h0];exact Yhi w hw k (by omega)
  ·rw[if_neg h0,if_neg h0]
theorem Yhh (w:List Int) (hw:w.length=16):Z5m w=some (trimC w):=by
 have hl:=Yhi w hw 16 (Nat.le_refl _);have hle:=Yhg w 16;unfold Z5m;rw[show loop Z7s ((16:Int),w)=_ from hl];simp only[bS9];rw[bif_t (sub3L.2 ⟨by omega,by omega,by omega⟩),Yhx _ (by unfold cut; simp; omega)];unfold trimC;rw[hw];rfl
theorem Yhr (c:List Int) (h:c.length <= 16):Z5o c=some (wC c):=by
 unfold Z5o;congr 1;have hm:lenMin (.int .i64) c 16=c.length:=Nat.min_eq_left h;rw[hm];apply List.ext_getElem?
 intro j;show (over (List.replicate 16 (0:Int)) c 0 c.length)[j]?=_;unfold over wC;rw[List.take_zero,List.nil_append,List.take_length,Nat.zero_add,List.getElem?_map];by_cases hj:j < c.length
 ·rw[List.getElem?_append_left hj,List.getElem?_range (by omega),List.getElem?_eq_getElem hj];simp[atC,List.getD,hj]
 ·rw[List.getElem?_append_right (by omega),List.getElem?_drop,List.getElem?_replicate];by_cases h2:j < 16
  ·rw[if_pos (by omega),List.getElem?_range h2];simp[atC,List.getD,hj]
  ·rw[if_neg (by omega),List.getElem?_eq_none (by simp; omega)]; rfl
def joinW (a b:List Int):List Int:=(List.range 16).map fun g=>max (atC a g) (atC b g)
theorem Y8x (a b:List Int) (ha:RC a) (hb:RC b):Z56 (a,b)=some (trimC (joinW a b),0):=by
 have key:=Y9y (f:=Z7q) b.length (fun k=>(b,(b.length:Int),(k:Int),(List.range 16).map fun g=>if g < k then max (atC a g) (atC b g) else atC a g)) (joinW a b) (by
   intro k hk;have hk16:k < 16:=by have:=hb.1; omega
   unfold Z7q;simp only;rw[bif_t (dT9 (by omega)),bif_t (Y86 hk),bif_t (Y86 hk16),bif_t (Y86 hk16),wrapI (by omega) (by omega),Yhe];congr 5;apply List.ext_getElem?
   intro j;rw[List.getElem?_set];by_cases hj:k=j
   ·subst hj;rw[if_pos rfl,if_pos (by simpa using hk16),List.getElem?_map,List.getElem?_range hk16];simp only[Option.map_some];rw[if_pos (by omega),Y7i,Y7i];congr 1;rw[show ((List.range 16).map fun g=>if g < k then max (atC a g) (atC b g) else atC a g).getD k 0=atC a k by simp[List.getD,hk16]];rfl
   ·rw[if_neg hj,List.getElem?_map,List.getElem?_map];by_cases h2:j < 16
    ·rw[List.getElem?_range h2];simp only[Option.map_some];congr 1;by_cases h3:j < k
     ·rw[if_pos h3,if_pos (by omega)]
     ·rw[if_neg h3,if_neg (by omega)]
    ·rw[List.getElem?_eq_none (by simp; omega)]; rfl) (by
   unfold Z7q;simp only;rw[bif_f (dF9 (by omega))];congr 2;unfold joinW;apply List.map_congr_left;intro g hg;by_cases h:g < b.length
   ·rw[if_pos h]
   ·rw[if_neg h];have h0:atC b g=0:=by unfold atC; simp[List.getD,h]
    have h1:0 <= atC a g:=by
     unfold atC;by_cases h2:g < a.length
     ·have:=ha.2 a[g] (List.getElem_mem h2);simp[List.getD,h2]; omega
     ·simp[List.getD,h2]
    rw[h0]; omega) 0 (Nat.zero_le _)
 unfold Z56;simp only;rw[Y39,tB_t ⟨ha,hb⟩];simp only[bS9,Bool.not_true,cond_false];rw[Yhr a ha.1];simp only[bS9]
 have hk:loop Z7q (b,((b.length:Nat):Int),0,wC a)=some (joinW a b):=by
  rw[<- key];congr 4
 rw[hk];simp only[bS9];rw[Yhh _ (by unfold joinW; simp)];rfl
set_option maxHeartbeats 1000000
theorem zat_eq (c:List Int) (hc:RC c) (g:Nat) (hg:g < 16):Z54 (c,(g:Int))=some (atC c g,0):=by
 unfold Z54;simp only;rw[right_eq',tB_t hc];simp only[bS9,Bool.not_true,cond_false];rw[bif_f (dF9 (by omega)),bif_f (dF9 (by omega)),Yhr c hc.1];simp only[bS9];rw[bif_t (Y86 hg),Yhe,getAtL _ (by rw[wC_len]; exact hg)];simp[wC]
def tickW (c:List Int) (g:Nat):List Int:=(List.range 16).map fun j=>if j=g then atC c j+1 else atC c j
theorem Yhb (c:List Int) (hc:RC c) (g:Nat) (hg:g < 16) (h:atC c g < 1099511627776) (h0:0 <= atC c g):Z5c (c,(g:Int))=some (trimC (tickW c g),0):=by
 unfold Z5c;simp only;rw[zat_eq c hc g hg];simp only[bS9];have hw:(wC c).length=16:=wC_len c;rw[bif_f (by rfl),bif_f (by simp; omega),Yhr c hc.1];simp only[bS9];rw[bif_t (Y86 hg),bif_t (Y86 hg),Yhe,getAtL _ (by rw[hw]; exact hg)];have hx:(wC c)[g]'(by rw[hw]; exact hg)=atC c g:=by simp[wC]
 rw[hx,wrapI (by omega) (by omega)]
 have:(wC c).set g (atC c g+1)=tickW c g:=by
  apply List.ext_getElem?
  intro j;unfold wC tickW;rw[List.getElem?_set];by_cases hj:g=j
  ·subst hj;rw[if_pos rfl,if_pos (by simpa using hg),List.getElem?_map,List.getElem?_range hg];simp
  ·rw[if_neg hj,List.getElem?_map,List.getElem?_map];by_cases h2:j < 16
   ·rw[List.getElem?_range h2];simp only[Option.map_some];rw[if_neg (fun q=>hj q.symm)]
   ·rw[List.getElem?_eq_none (by simp; omega)]; rfl
 rw[this,Yhh _ (by unfold tickW; simp)];rfl
set_option maxHeartbeats 1000000
theorem Yhf (w:List Int) (g:Nat):∀ n,g < trimN w n ↔ ∃ j,g <= j/\j < n/\w.getD j 0 ≠ 0
 | 0=>⟨fun h=>absurd h (Nat.not_lt_zero _),fun ⟨j,_,h,_⟩=>absurd h (Nat.not_lt_zero _)⟩
 | n+1=>by
  unfold trimN;by_cases h0:w.getD n 0=0
  ·rw[if_pos h0,Yhf w g n];constructor
   ·rintro ⟨j,h1,h2,h3⟩; exact ⟨j,h1,by omega,h3⟩
   ·rintro ⟨j,h1,h2,h3⟩;refine ⟨j,h1,?_,h3⟩;rcases Nat.lt_or_ge j n with q | q
    ·exact q
    ·obtain rfl:j=n:=by omega
     exact absurd h0 h3
  ·rw[if_neg h0];exact ⟨fun h=>⟨n,by omega,by omega,h0⟩,fun ⟨j,h1,h2,_⟩=>by omega⟩
set_option maxHeartbeats 1000000
def BC (m:Int) (c:List Int):Prop:=c.length <= 16/\∀ n ∈ c,0 <= n/\n <= m
theorem BC.rc {m:Int} {c:List Int} (h:BC m c) (hm:m <= 1099511627776):RC c:=⟨h.1,fun n hn=>⟨(h.2 n hn).1,by have:=(h.2 n hn).2; omega⟩⟩
theorem BC.mono {m m':Int} {c:List Int} (h:BC m c) (hm:m <= m'):BC m' c:=⟨h.1,fun n hn=>⟨(h.2 n hn).1,by have:=(h.2 n hn).2; omega⟩⟩
theorem BC.at {m:Int} {c:List Int} (h:BC m c) (hm:0 <= m) (g:Nat):0 <= atC c g/\atC c g <= m:=by
 unfold atC;by_cases hg:g < c.length
 ·have:=h.2 c[g] (List.getElem_mem hg);simp[List.getD,hg]; omega
 ·simp[List.getD,hg]; omega
theorem BC.nil (m:Int):BC m []:=⟨by decide,fun n hn=>by simp at hn⟩
theorem BC.trim {m:Int} {w:List Int} (h:BC m w):BC m (trimC w):=by
 unfold trimC;refine ⟨by rw[List.length_take]; have:=h.1; omega,fun n hn=>h.2 n (List.mem_of_mem_take hn)⟩
theorem BC.join {m:Int} {a b:List Int} (ha:BC m a) (hb:BC m b) (hm:0 <= m):BC m (trimC (joinW a b)):=by
 refine BC.trim ⟨by unfold joinW; simp,fun n hn=>?_⟩;unfold joinW at hn;obtain ⟨g,_,rfl⟩:=List.mem_map.1 hn;have h1:=ha.at hm g;have h2:=hb.at hm g;omega
theorem BC.tick {m:Int} {c:List Int} (h:BC m c) (hm:0 <= m) (g:Nat):BC (m+1) (trimC (tickW c g)):=by
 refine BC.trim ⟨by unfold tickW; simp,fun n hn=>?_⟩;unfold tickW at hn;obtain ⟨j,_,rfl⟩:=List.mem_map.1 hn;have h1:=h.at hm j;split <;> omega
def Y8v (out:List (List Int)) (es:List Int):List Int:=es.foldl (fun c k=>trimC (joinW c (out.getD k.toNat []))) []
theorem Y8w (out:List (List Int)) (es:List Int) (k:Int):Y8v out (es++[k])=trimC (joinW (Y8v out es) (out.getD k.toNat [])):=by
 unfold Y8v; rw[List.foldl_append]; rfl
theorem BC.all {m:Int} {out:List (List Int)} (h:∀ c ∈ out,BC m c) (hm:0 <= m):∀ (es:List Int) (c:List Int),BC m c->BC m (es.foldl (fun c k=>trimC (joinW c (out.getD k.toNat []))) c)
 | [],c,hc=>hc
 | k :: es,c,hc=>by
  rw[List.foldl_cons];refine BC.all h hm es _ (hc.join ?_ hm);by_cases hk:k.toNat < out.length
  ·rw[show out.getD k.toNat []=out[k.toNat] by simp[List.getD,hk]];exact h _ (List.getElem_mem hk)
  ·rw[show out.getD k.toNat []=[] by simp[List.getD,hk]];exact BC.nil m
noncomputable def Y3w (caps:List Int) (l:List Ev):Nat->List (List Int)
 | 0=>[]
 | i+1=>Y3w caps l i++[trimC (tickW (Y8v (Y3w caps l i) (Y5n caps l i)) (getE l i).1.toNat)]
theorem Y3z (caps:List Int) (l:List Ev):∀ n,(Y3w caps l n).length=n
 | 0=>rfl
 | n+1=>by unfold Y3w; rw[List.length_append,Y3z caps l n]; rfl
theorem Y3y (caps:List Int) (l:List Ev):∀ n,∀ c ∈ Y3w caps l n,BC n c
 | 0,c,h=>by simp[Y3w] at h
 | n+1,c,h=>by
  unfold Y3w at h;have ih:=Y3y caps l n;rcases List.mem_append.1 h with h | h
  ·exact (ih c h).mono (by omega)
  ·obtain rfl:=List.mem_singleton.1 h;have:=(BC.all ih (by omega) (Y5n caps l n) [] (BC.nil _)).tick (by omega) (getE l n).1.toNat;exact this.mono (by omega)
theorem Y8z (c all:List Int) (hc:RC c) (ha:RC all):Z3r (c,all)=some (trimC (joinW all c),trimC (joinW all c)):=by
 unfold Z3r;simp only;rw[Y8x all c ha hc];rfl
theorem Y8j {A:List (List Int)} {l:List Ev} {L i:Int} {e:Ev} {out:List (List Int)} {m:Int} (hm:0 <= m) (hm2:m <= 1099511627776) (ho:∀ c ∈ out,BC m c) (es:List Int) (he:es.length < 30000) (hes:∀ k ∈ es,0 <= k/\k < out.length) :
  loop Z7k (A,[],l,L,i,es,(es.length:Int),0,e,[],out)=some (A,Y8v out es,l,L,i,e,out):=by
 have key:=Y9y (f:=Z7k) es.length (fun k=>(A,Y8v out (es.take k),l,L,i,es,(es.length:Int),(k:Int),e,Y8v out (es.take k),out)) (A,Y8v out es,l,L,i,e,out) (by
   intro k hk;have hb:=hes es[k] (List.getElem_mem hk);obtain ⟨q,hq⟩:∃ q:Nat,es[k]=q:=⟨es[k].toNat,by omega⟩
   have hq2:q < out.length:=by omega
   have hj:BC m (Y8v out (es.take k)):=BC.all ho hm _ _ (BC.nil m);unfold Z7k;simp only;rw[bif_t (dT9 (by omega)),bif_t (Y86 hk),Yhe,getAtL _ hk,hq,bif_t (Y86 hq2),Yhe,getAtL _ hq2,Y8z _ _ ((ho _ (List.getElem_mem hq2)).rc hm2) (hj.rc hm2),wrapI (by omega) (by omega)];simp only[bS9];rw[<- List.take_append_getElem hk,Y8w,hq,show out.getD ((q:Int)).toNat []=out[q] by simp[List.getD,hq2]];rfl) (by
   unfold Z7k;simp only;rw[bif_f (dF9 (by omega)),List.take_length]) 0 (Nat.zero_le _)
 exact key
set_option maxHeartbeats 1000000
theorem Y8y:trimC (joinW [] [])=[]:=by decide
theorem Y4w (c:List Int):cut c (toN 0) (toN ((c.length:Nat):Int) - toN 0)=c:=by
 show (c.drop 0).take (c.length - 0)=c;simp
theorem Y5r {caps:List Int} {l:List Ev} {i:Nat}:∀ k ∈ Y5n caps l i,0 <= k/\k < ((Y3w caps l i).length:Int):=by
 intro k hk;obtain ⟨j,rfl,hj,_⟩:=Y5q.1 hk;rw[Y3z]; omega
theorem good_G {caps:List Int} {l:List Ev} (hG:GoodL caps l) {i:Nat} (h:i < l.length):l[i].1=((l[i].1.toNat:Nat):Int)/\l[i].1.toNat < 16:=by
 have:=(hG i h).1;have h1:=this.1;have h2:=this.2.1;omega
theorem Ygp {caps:List Int} {l:List Ev} (hG:GoodL caps l) (hl:l.length < 29000) {i:Nat} (h:i < l.length) :
  Z5c (Y8v (Y3w caps l i) (Y5n caps l i),l[i].1)=some (trimC (tickW (Y8v (Y3w caps l i) (Y5n caps l i)) (getE l i).1.toNat),0):=by
 have hj:BC i (Y8v (Y3w caps l i) (Y5n caps l i)):=BC.all (Y3y caps l i) (by omega) _ _ (BC.nil _);obtain ⟨g1,g2⟩:=good_G hG h;have hb:=hj.at (by omega) l[i].1.toNat;have:=Yhb _ (hj.rc (by omega)) l[i].1.toNat g2 (by omega) hb.1;rw[<- g1] at this;rw[Y7m h];exact this
theorem Ygo {caps:List Int} {l:List Ev} (hc:capsOK caps) (hG:GoodL caps l) (hl:l.length < 29000):Z3o (caps,l)=some (Y3w caps l l.length,0):=by
 have key:=Y9y (f:=Z7m) l.length (fun k=>((List.range l.length).map (Y5n caps l),l,(l.length:Int),(k:Int),Y3w caps l k)) (Y3w caps l l.length) (by
   intro k hk;have hb:=Y3y caps l k;have hlen:=Y3z caps l k;unfold Z7m Z3q;simp only;rw[bif_t (dT9 (by omega)),bif_t (Y86 hk)];simp only[bS9];rw[Y8z [] [] ((BC.nil 0).rc (by omega)) ((BC.nil 0).rc (by omega)),Y8y];simp only[bS9];rw[bif_t (Y86 (by rw[List.length_map,List.length_range]; exact hk)),Yhe,getAtL _ (by rw[List.length_map,List.length_range]; exact hk),getAtL _ hk];simp only[List.getElem_map,List.getElem_range];rw[Y8j (m:=k) (by omega) (by omega) hb _ (by have:=Y5o caps l k; omega) Y5r];simp only[bS9];rw[Ygp hG hl hk];simp only[bS9];rw[show Y3w caps l (k+1)=Y3w caps l k++[trimC (tickW (Y8v (Y3w caps l k) (Y5n caps l k)) (getE l k).1.toNat)] from rfl];generalize trimC (tickW (Y8v (Y3w caps l k) (Y5n caps l k)) (getE l k).1.toNat)=c
   rw[bif_t (by
    rw[show sub3 (0:Int) ((c.length:Nat):Int) c.length=true from sub3L.2 ⟨by omega,by omega,by omega⟩,show sub3 ((c.length:Nat):Int) ((c.length:Nat):Int) c.length=true from sub3L.2 ⟨by omega,by omega,by omega⟩];rfl),bif_t (Y6q.2 (by simp only[List.length_cons,List.length_nil]; omega)),Y4w,wrapI (by omega) (by omega)]
   rfl) (by
   unfold Z7m;simp only;rw[bif_f (dF9 (by omega))]) 0 (Nat.zero_le _)
 unfold Z3o;simp only;rw[Y1o hc hG hl];simp only[bS9];rw[bif_f (by rfl),bif_t (Yb2.2 ⟨by omega,by omega,by simp; omega⟩)];rw[show loop Z7m ((List.range l.length).map (Y5n caps l),l,((l.length:Nat):Int),0,List.replicate (toN 0) [])=_ from key];rfl
end Go.Proofs.YtifbgkikkiallaaGreat.VX.VxZ_Z
set_option maxHeartbeats 1000000
namespace Go.Proofs.YtifbgkikkiallaaGreat.VX.VxZ_Z
open Go.Proofs
end Go.Proofs.YtifbgkikkiallaaGreat.VX.VxZ_Z
set_option maxHeartbeats 1000000
namespace Go.Proofs.YtifbgkikkiallaaGreat.VX.VxZ_Z
open Go.Proofs
theorem Ygn {caps:List Int} {l:List Ev} (hn:caps.length < 30000) (hl:l.length < 29000) (h:¬ (capsOK caps/\GoodL caps l)):Z3o (caps,l)=some ([],1):=by
 unfold Z3o;simp only;rw[Y1n hn hl h];rfl
theorem Y2e (w:List Int) (g:Nat):atC (trimC w) g=w.getD g 0:=by
 unfold atC trimC;by_cases h:g < trimN w w.length
 ·simp[List.getD,List.getElem?_take,h]
 ·have h1:(w.take (trimN w w.length)).getD g 0=0:=by simp[List.getD,List.getElem?_take,h]
  rw[h1];by_cases h2:g < w.length
  ·exact Classical.byContradiction fun q=>h ((Yhf w g w.length).2 ⟨g,Nat.le_refl _,h2,fun e=>q e.symm⟩)
  ·simp[List.getD,h2]
theorem Y2f (a b:List Int) {g:Nat} (hg:g < 16):atC (trimC (joinW a b)) g=max (atC a g) (atC b g):=by
 rw[Y2e]; unfold joinW; simp[List.getD,hg]
theorem Y2g (c:List Int) (g:Nat) {j:Nat} (hj:j < 16):atC (trimC (tickW c g)) j=if j=g then atC c j+1 else atC c j:=by
 rw[Y2e]; unfold tickW; simp[List.getD,hj]
theorem Y6z (out:List (List Int)) {g:Nat} (hg:g < 16) (n:Int):∀ (es:List Int) (c:List Int),n <= atC (es.foldl (fun c k=>trimC (joinW c (out.getD k.toNat []))) c) g ↔ n <= atC c g \/ ∃ k ∈ es,n <= atC (out.getD k.toNat []) g
 | [],c=>by simp
 | k :: es,c=>by
  rw[List.foldl_cons,Y6z out hg n es,Y2f _ _ hg];constructor
  ·rintro (h | ⟨j,h1,h2⟩)
   ·rcases Int.le_total (atC c g) (atC (out.getD k.toNat []) g) with q | q
    ·exact .inr ⟨k,List.mem_cons_self ..,by omega⟩
    ·exact .inl (by omega)
   ·exact .inr ⟨j,List.mem_cons_of_mem _ h1,h2⟩
  ·rintro (h | ⟨j,h1,h2⟩)
   ·exact .inl (by omega)
   ·rcases List.mem_cons.1 h1 with rfl | h1
    ·exact .inl (by omega)
    ·exact .inr ⟨j,h1,h2⟩
section
variable (caps:List Int) (l:List Ev)
noncomputable def clk (i:Nat):List Int:=trimC (tickW (Y8v (Y3w caps l i) (Y5n caps l i)) (getE l i).1.toNat)
theorem Y3x:∀ (n i:Nat),i < n->(Y3w caps l n).getD i []=clk caps l i
 | 0,i,h=>absurd h (Nat.not_lt_zero _)
 | n+1,i,h=>by
  unfold Y3w;have hl:=Y3z caps l n;by_cases q:i < n
  ·rw[<- Y3x n i q];simp only[List.getD];rw[List.getElem?_append_left (by omega)]
  ·obtain rfl:i=n:=by omega
   simp only[List.getD];rw[List.getElem?_append_right (by omega),hl,Nat.sub_self];rfl
theorem clk_bc (i:Nat):BC ((i:Int)+1) (clk caps l i):=by
 have:=Y3y caps l (i+1) (clk caps l i) (by unfold Y3w; exact List.mem_append_right _ (List.mem_singleton.2 rfl));exact this
noncomputable def Kq (i g:Nat):Int:=atC (clk caps l i) g
noncomputable def J (i g:Nat):Int:=atC (Y8v (Y3w caps l i) (Y5n caps l i)) g
variable {caps l}
theorem K_J {i g:Nat} (hg:g < 16):Kq caps l i g=if g=(getE l i).1.toNat then J caps l i g+1 else J caps l i g:=Y2g _ _ hg
theorem J_nn {i g:Nat} (hg:g < 16):0 <= J caps l i g:=(Y6z (Y3w caps l i) hg 0 (Y5n caps l i) []).2 (.inl (by unfold atC; simp))
theorem J_iff {i g:Nat} (hg:g < 16) {n:Int} (hn:1 <= n):n <= J caps l i g ↔ ∃ k,k < i/\isE caps l k i/\n <= Kq caps l k g:=by
 unfold J Y8v;rw[Y6z _ hg];constructor
 ·rintro (h | ⟨x,h1,h2⟩)
  ·exact absurd h (by unfold atC; simp; omega)
  ·obtain ⟨k,rfl,hk,he⟩:=Y5q.1 h1;rw[show ((k:Int)).toNat=k from rfl,Y3x caps l i k hk] at h2;exact ⟨k,hk,he,h2⟩
 ·rintro ⟨k,hk,he,h2⟩;refine .inr ⟨(k:Int),Y5q.2 ⟨k,rfl,hk,he⟩,?_⟩;rw[show ((k:Int)).toNat=k from rfl,Y3x caps l i k hk]; exact h2
def cG (l:List Ev) (g:Int) (i:Nat):Nat:=((l.take i).filter fun e=>e.1 == g).length
theorem Y3f {i:Nat} (h:i < l.length) (g:Int):cG l g (i+1)=cG l g i+if l[i].1=g then 1 else 0:=by
 unfold cG;rw[<- List.take_append_getElem h,List.filter_append,List.length_append];congr 1;by_cases q:l[i].1=g
 ·rw[if_pos q,List.filter_cons_of_pos (by simpa using q)]; rfl
 ·rw[if_neg q,List.filter_cons_of_neg (by simpa using q)]; rfl
theorem Y3e {a b:Nat} (h:a <= b) (g:Int):cG l g a <= cG l g b:=by
 unfold cG;exact ((List.take_prefix_take_left h).sublist.filter _).length_le
theorem cG_le (l:List Ev) (g:Int) (i:Nat):cG l g i <= i:=by
 unfold cG;have:=List.length_filter_le (fun e:Ev=>e.1 == g) (l.take i);have:(l.take i).length <= i:=by rw[List.length_take]; omega
 omega
theorem Y99 (g:Int):∀ i,i <= l.length->(lastE g (l.take i) 0=0->cG l g i=0)/\∀ k,lastE g (l.take i) 0=k+1->∃ h:k < l.length,k < i/\l[k].1=g/\cG l g (k+1)=cG l g i
 | 0,_=>⟨fun _=>rfl,fun k h=>by simp[lastE] at h⟩
 | i+1,hi=>by
  have h:i < l.length:=hi;obtain ⟨h1,h2⟩:=Y99 g i (by omega);rw[<- List.take_append_getElem h,Y97,Y3f h];have hlen:(l.take i).length=i:=by rw[List.length_take]; omega
  by_cases q:l[i].1=g
  ·rw[if_pos q,if_pos q,hlen];refine ⟨fun z=>by omega,fun k z=>?_⟩;obtain rfl:k=i:=by omega
   exact ⟨h,by omega,q,by rw[Y3f h,if_pos q]⟩
  ·rw[if_neg q,if_neg q];refine ⟨fun z=>by rw[h1 z],fun k z=>?_⟩;obtain ⟨h3,h4,h5,h6⟩:=h2 k z;exact ⟨h3,by omega,h5,by omega⟩
theorem gor_of (hG:GoodL caps l) {i:Nat} (h:i < l.length):(getE l i).1=(((getE l i).1.toNat:Nat):Int)/\(getE l i).1.toNat < 8/\l[i].1=(((getE l i).1.toNat:Nat):Int):=by
 have:=(hG i h).1;rw[Y7m h];have h1:=this.1;have h2:=this.2.1;omega
theorem Y5k {i k:Nat} (h:lastE (getE l i).1 (l.take i) 0=k+1):isE caps l k i:=.inl (by omega)
theorem K_cnt (hG:GoodL caps l):∀ i,i < l.length->∀ g:Nat,g < 16->Kq caps l i g <= cG l g (i+1)/\(g=(getE l i).1.toNat->Kq caps l i g=cG l g (i+1)):=by
 intro i;induction i using Nat.strongRecOn with
 | ind i ih =>
  intro h g hg;obtain ⟨e1,e2,e3⟩:=gor_of hG h
  have hJ:J caps l i g <= cG l g i:=by
   rcases Int.lt_or_le (J caps l i g) 1 with q | q
   ·have:=J_nn (caps:=caps) (l:=l) (i:=i) hg; omega
   ·obtain ⟨k,hk,he,h2⟩:=(J_iff hg q).1 (Int.le_refl _);have h3:=(ih k hk (by omega) g hg).1;have h4:=Y3e (l:=l) (show k+1 <= i by omega) g;omega
  have hs:=Y3f h (g:Int);rw[K_J hg];by_cases q:g=(getE l i).1.toNat
  ·rw[if_pos q];rw[if_pos (by rw[e3,q])] at hs
   have hJ2:(cG l g i:Int) <= J caps l i g:=by
    obtain ⟨l1,l2⟩:=Y99 (l:=l) (g:Int) i (by omega);cases hl:lastE (g:Int) (l.take i) 0 with
    | zero=>have:=l1 hl; have:=J_nn (caps:=caps) (l:=l) (i:=i) hg; omega
    | succ k =>
     obtain ⟨h3,h4,h5,h6⟩:=l2 k hl;have hk:=(ih k h4 h3 g hg).2 (by rw[Y7m h3,h5]; rfl);rcases Int.lt_or_le (cG l g i:Int) 1 with q2 | q2
     ·have:=J_nn (caps:=caps) (l:=l) (i:=i) hg; omega
     ·exact (J_iff hg q2).2 ⟨k,h4,Y5k (by rw[e1,<- q]; exact hl),by rw[hk,h6]; exact Int.le_refl _⟩
   exact ⟨by omega,fun _=>by omega⟩
  ·rw[if_neg q];exact ⟨by have:=Y3e (l:=l) (Nat.le_succ i) (g:Int); omega,fun z=>absurd z q⟩
inductive Reach (caps:List Int) (l:List Ev):Nat->Nat->Prop
 | refl (i:Nat):Reach caps l i i
 | step {j k i:Nat} (h:Reach caps l j k) (hk:k < i) (he:isE caps l k i):Reach caps l j i
theorem Reach.le {j i:Nat} (h:Reach caps l j i):j <= i:=by
 induction h with
 | refl=>exact Nat.le_refl _
 | step _ h2 _ ih=>omega
theorem Reach.trans {a b c:Nat} (h:Reach caps l a b) (k:Reach caps l b c):Reach caps l a c:=by
 induction k with
 | refl=>exact h
 | step _ h2 h3 ih=>exact .step ih h2 h3
theorem edge_K {k i:Nat} (hk:k < i) (he:isE caps l k i) {g:Nat} (hg:g < 16):Kq caps l k g <= Kq caps l i g:=by
 have h1:Kq caps l k g <= J caps l i g:=by
  rcases Int.lt_or_le (Kq caps l k g) 1 with q | q
  ·have:=J_nn (caps:=caps) (l:=l) (i:=i) hg; omega
  ·exact (J_iff hg q).2 ⟨k,hk,he,Int.le_refl _⟩
 rw[K_J hg (i:=i)];split <;> omega
theorem Reach.Kq {j i:Nat} (h:Reach caps l j i) {g:Nat} (hg:g < 16):Kq caps l j g <= Kq caps l i g:=by
 induction h with
 | refl=>exact Int.le_refl _
 | step _ h2 h3 ih=>exact Int.le_trans ih (edge_K h2 h3 hg)
theorem Yd (hG:GoodL caps l):∀ i,i < l.length->∀ (g:Nat) (n:Nat),g < 16->1 <= n->(n:Int) <= Kq caps l i g->∃ j,∃ h:j < l.length,Reach caps l j i/\l[j].1=g/\cG l g (j+1)=n:=by
 intro i;induction i using Nat.strongRecOn with
 | ind i ih =>
  intro h g n hg hn hK;obtain ⟨e1,e2,e3⟩:=gor_of hG h
  have hJ:(n:Int) <= J caps l i g->∃ j,∃ h:j < l.length,Reach caps l j i/\l[j].1=g/\cG l g (j+1)=n:=by
   intro q;obtain ⟨k,hk,he,h2⟩:=(J_iff hg (by omega)).1 q;obtain ⟨j,hj,h3,h4⟩:=ih k hk (by omega) g n hg hn h2;exact ⟨j,hj,.step h3 hk he,h4⟩
  have hc:=K_cnt hG i h g hg;rw[K_J hg] at hK hc;by_cases q:g=(getE l i).1.toNat
  ·rw[if_pos q] at hK hc;by_cases q2:(n:Int) <= J caps l i g
   ·exact hJ q2
   ·exact ⟨i,h,.refl i,by rw[e3,q],by have:=hc.2 q; omega⟩
  ·rw[if_neg q] at hK;exact hJ hK
theorem cG_inj {i j:Nat} (hi:i < l.length) (hj:j < l.length) {g:Int} (h1:l[i].1=g) (h2:l[j].1=g) (h:cG l g (i+1)=cG l g (j+1)):i=j:=by
 rcases Nat.lt_trichotomy i j with q | q | q
 ·have:=Y3e (l:=l) (show i+1 <= j by omega) g;rw[Y3f hj,if_pos h2] at h; omega
 ·exact q
 ·have:=Y3e (l:=l) (show j+1 <= i by omega) g;rw[Y3f hi,if_pos h1] at h; omega
theorem Y96 (hG:GoodL caps l) {i j:Nat} (hi:i < l.length) (hj:j < l.length):Kq caps l i (getE l i).1.toNat <= Kq caps l j (getE l i).1.toNat ↔ Reach caps l i j:=by
 obtain ⟨e1,e2,e3⟩:=gor_of hG hi;have hg:(getE l i).1.toNat < 16:=by omega
 constructor
 ·intro h;have hc:=(K_cnt hG i hi _ hg).2 rfl;have hs:=Y3f hi (((getE l i).1.toNat:Nat):Int);rw[if_pos e3] at hs;obtain ⟨k,hk,h1,h2,h3⟩:=Yd hG j hj _ (cG l (((getE l i).1.toNat:Nat):Int) (i+1)) hg (by omega) (by omega);have:=cG_inj hi hk e3 h2 h3.symm;rw[this]; exact h1
 ·intro h; exact h.Kq hg
theorem Ydr (hG:GoodL caps l) {i j:Nat} (hij:i <= j) (hj:j < l.length) (hg:(getE l i).1=(getE l j).1):Reach caps l i j:=by
 obtain ⟨e1,e2,e3⟩:=gor_of hG (show i < l.length by omega);refine (Y96 hG (by omega) hj).1 ?_;have h1:=(K_cnt hG i (by omega) _ (show (getE l i).1.toNat < 16 by omega)).2 rfl;have h2:=(K_cnt hG j hj _ (show (getE l i).1.toNat < 16 by omega)).2 (by rw[hg]);rw[h1,h2];have:=Y3e (l:=l) (show i+1 <= j+1 by omega) (((getE l i).1.toNat:Nat):Int);omega
end
set_option maxHeartbeats 1000000
theorem bitsN (f:Nat->Nat->Nat) (fb:BitVec 64->BitVec 64->BitVec 64) (hf:∀ x y,(fb x y).toNat=f x.toNat y.toNat) (a b:Nat) (ha:a < 2 ^ 64) (hb:b < 2 ^ 64) (hr:f a b < 2 ^ 63):intBits .i64 (a:Int) (b:Int) fb=(f a b:Int):=by
 unfold intBits
 have h:∀ n:Nat,n < 2 ^ 64->(BitVec.ofInt 64 (n:Int)).toNat=n:=by
  intro n hn;rw[BitVec.toNat_ofInt];show ((n:Int) % ((2 ^ 64:Nat):Int)).toNat=n;omega
 show IntKind.wrap .i64 (((fb (BitVec.ofInt 64 (a:Int)) (BitVec.ofInt 64 (b:Int))).toNat:Nat):Int)=_;rw[hf,h a ha,h b hb,wrapI (by omega) (by omega)]
theorem Ycn (t g:Nat) (ht:t <= 1099511627776) (hg:g < 16):Zg ((t:Int),(g:Int))=some (((16 * t+g:Nat):Int),0):=by
 unfold Zg;simp only;rw[bif_f (dF9 (by omega)),bif_f (dF9 (by omega)),bif_f (dF9 (by omega)),bif_f (dF9 (by omega))]
 have h1:shlI .i64 (t:Int) 4=((16 * t:Nat):Int):=by
  unfold shlI;have:min (4:Int).toNat IntKind.i64.bits=4:=by decide
  rw[this,wrapI (by omega) (by omega)];omega
 have h2:(16 * t) ||| g=16 * t+g:=by
  have:=Nat.shiftLeft_add_eq_or_of_lt (a:=t) (i:=4) (b:=g) (by omega);rw[Nat.shiftLeft_eq] at this;rw[show 16 * t=t * 2 ^ 4 by omega,<- this]
 have h3:=bitsN (fun x y=>x ||| y) (fun x y=>x ||| y) (fun x y=>BitVec.toNat_or x y) (16 * t) g (by omega) (by omega) (by show (16 * t) ||| g < _; rw[h2]; omega);have h3:intBits .i64 ((16 * t:Nat):Int) (g:Int) (fun x y=>x ||| y)=(((16 * t) ||| g:Nat):Int):=h3;rw[h1,h3,h2]
theorem Yhn (t g:Nat) (ht:t <= 1099511627776) (hg:g < 16):Zi (((16 * t+g:Nat):Int))=some ((t:Int),(g:Int),0):=by
 unfold Zi;rw[bif_f (dF9 (by omega)),bif_f (dF9 (by omega))]
 have h1:shrI .i64 ((16 * t+g:Nat):Int) 4=(t:Int):=by
  unfold shrI;have:min (4:Int).toNat IntKind.i64.bits=4:=by decide
  rw[this,Int.fdiv_eq_ediv_of_nonneg _ (by decide)];omega
 have h2:(16 * t+g) &&& 15=g:=by
  have:=Nat.and_two_pow_sub_one_eq_mod (16 * t+g) 4;rw[show (15:Nat)=2 ^ 4 - 1 by decide,this];omega
 have h3:=bitsN (fun x y=>x &&& y) (fun x y=>x &&& y) (fun x y=>BitVec.toNat_and x y) (16 * t+g) 15 (by omega) (by omega) (by show (16 * t+g) &&& 15 < _; rw[h2]; omega);have h3:intBits .i64 ((16 * t+g:Nat):Int) 15 (fun x y=>x &&& y)=(((16 * t+g) &&& 15:Nat):Int):=h3;rw[h1,h3,h2]
theorem Y95 (t g:Nat) (ht:t <= 1099511627776) (hg:g < 16) (c:List Int) (hc:RC c):Ze (((16 * t+g:Nat):Int),c)=some (decide ((t:Int) <= atC c g),0):=by
 unfold Ze;simp only;rw[Yhn t g ht hg];simp only[bS9];rw[bif_f (by rfl),zat_eq c hc g hg];simp only[bS9];rw[bif_t (by rfl)]
section
variable (caps:List Int) (l:List Ev)
noncomputable def tk (i:Nat):Nat:=cG l (getE l i).1 (i+1)
noncomputable def ownN (i:Nat):Nat:=16 * tk l i+(getE l i).1.toNat
def Hb (i j:Nat):Prop:=Reach caps l i j/\i ≠ j
variable {caps l}
theorem tk_K (hG:GoodL caps l) {i:Nat} (h:i < l.length):Kq caps l i (getE l i).1.toNat=tk l i:=by
 obtain ⟨e1,e2,e3⟩:=gor_of hG h;have:=(K_cnt hG i h (getE l i).1.toNat (by omega)).2 rfl;unfold tk;rw[this,<- e1]
theorem tk_le {i:Nat}:tk l i <= i+1:=cG_le _ _ _
theorem clk_rc {i:Nat} (hi:i < 100000):RC (clk caps l i):=(clk_bc caps l i).rc (by omega)
theorem Y3v {i:Nat} (h:i < l.length) (z:i < (Y3w caps l l.length).length):(Y3w caps l l.length)[i]=clk caps l i:=by
 have:=Y3x caps l l.length i h;simpa[List.getD,z] using this
noncomputable def pastOf (caps:List Int) (l:List Ev) (j:Nat):List Int:=((List.range j).filter fun i=>tB (Hb caps l i j)).map fun i:Nat=>(i:Int)
theorem Ycs (caps:List Int) (l:List Ev) (j:Nat):(pastOf caps l j).length <= j:=by
 unfold pastOf;rw[List.length_map];have:=List.length_filter_le (fun i=>tB (Hb caps l i j)) (List.range j);simpa using this
theorem Yct {caps:List Int} {l:List Ev} {j:Nat} {x:Int}:x ∈ pastOf caps l j ↔ ∃ i:Nat,x=i/\i < j/\Hb caps l i j:=by
 unfold pastOf;rw[List.mem_map];constructor
 ·rintro ⟨k,hk,rfl⟩;have:=List.mem_filter.1 hk;exact ⟨k,rfl,List.mem_range.1 this.1,Yh3.1 this.2⟩
 ·rintro ⟨k,rfl,h1,h2⟩;exact ⟨k,List.mem_filter.2 ⟨List.mem_range.2 h1,tB_t h2⟩,rfl⟩
theorem Y6h {n k:Nat} (p:Nat->Bool) (hk:k < n):((List.range (k+1)).filter p).map (fun i:Nat=>(i:Int))=((List.range k).filter p).map (fun i:Nat=>(i:Int))++if p k=true then [(k:Int)] else []:=by
 rw[List.range_succ,List.filter_append,List.map_append];congr 1;by_cases q:p k=true
 ·rw[if_pos q,List.filter_cons_of_pos q]; rfl
 ·rw[if_neg q,List.filter_cons_of_neg q]; rfl
end
end Go.Proofs.YtifbgkikkiallaaGreat.VX.VxZ_Z

