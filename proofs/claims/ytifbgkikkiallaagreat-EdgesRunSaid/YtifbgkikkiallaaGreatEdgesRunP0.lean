import Derived.Test.YtifbgkikkiallaaGreatEdgesRunE15
import Derived.Test.YtifbgkikkiallaaGreatEdgesRunE14
import Derived.Test.YtifbgkikkiallaaGreatEdgesRunE17
import Derived.Test.YtifbgkikkiallaaGreatEdgesRunF1
set_option linter.unusedVariables false
set_option linter.unusedSimpArgs false
namespace Go.Proofs.YtifbgkikkiallaaGreat.VX
theorem wrapI {n:Int} (h1:-9223372036854775808 <= n) (h2:n < 9223372036854775808):IntKind.wrap .i64 n=n:=by
 unfold IntKind.wrap;show (if (true && decide (n % 18446744073709551616 ≥ 9223372036854775808))=true then n % 18446744073709551616 - 18446744073709551616 else n % 18446744073709551616)=n;split
 ·rename_i h; simp at h; omega
 ·rename_i h; simp at h; omega
theorem Y7v {α:Type} (z:α):∀ (l:List α) (n:Nat),getAt z l n=l.getD n z
 | [],n=>by cases n <;> rfl
 | a :: l,0=>rfl
 | a :: l,n+1=>by
  show getAt z l n=_;rw[Y7v z l n]; rfl
theorem getAtL {α:Type} (z:α) {l:List α} {n:Nat} (h:n < l.length):getAt z l n=l[n]:=by rw[Y7v]; simp[List.getD,h]
theorem inbL {i:Int} {n:Nat}:inb i n=true ↔ 0 <= i/\i < n:=by unfold inb; simp
theorem Y8t {i n:Nat} (h:i < n):inb (i:Int) n=true:=by rw[inbL]; omega
theorem Yk0 (i:Nat):toN (i:Int)=i:=rfl
theorem Y74 {n:Nat}:fits n=true ↔ n <= 4294967296:=by unfold fits; simp
theorem Ybz {n c:Int}:mkOK n c=true ↔ 0 <= n/\n <= c/\c.toNat <= 4294967296:=by
 unfold mkOK toN; simp[Y74]
theorem sub3L {l h:Int} {n:Nat}:sub3 l h n=true ↔ 0 <= l/\l <= h/\h <= n:=by unfold sub3; simp
theorem Yau {X Y:Type} {f:X->Option (X ⊕ Y)} (I:X->Prop) (Q:Y->Prop) (m:X->Nat) (h:∀ x,I x->(∃ x',f x=some (.inl x')/\I x'/\m x' < m x) \/ (∃ y,f x=some (.inr y)/\Q y)) :
  ∀ x,I x->∃ y,loop f x=some y/\Q y:=by
 have:∀ n x,m x <= n->I x->∃ y,loop f x=some y/\Q y:=by
  intro n;induction n with
  | zero =>
   intro x hm hI;rcases h x hI with ⟨x',_,_,h3⟩ | ⟨y,h1,h2⟩
   ·omega
   ·exact ⟨y,by rw[Yaq,h1],h2⟩
  | succ n ih =>
   intro x hm hI;rcases h x hI with ⟨x',h1,h2,h3⟩ | ⟨y,h1,h2⟩
   ·obtain ⟨y,q1,q2⟩:=ih x' (by omega) h2;exact ⟨y,by rw[Yaq,h1]; exact q1,q2⟩
   ·exact ⟨y,by rw[Yaq,h1],h2⟩
 intro x hI;exact this (m x) x (Nat.le_refl _) hI
theorem Yap {X Y:Type} {f:X->Option (X ⊕ Y)} (n:Nat) (st:Nat->X) (y:Y) (h1:∀ k,k < n->f (st k)=some (.inl (st (k+1)))) (h2:f (st n)=some (.inr y)):∀ k,k <= n->loop f (st k)=some y:=by
 have:∀ d k,n - k=d->k <= n->loop f (st k)=some y:=by
  intro d;induction d with
  | zero =>
   intro k h hk;obtain rfl:k=n:=by omega
   rw[Yaq,h2]
  | succ d ih =>
   intro k h hk;rw[Yaq,h1 k (by omega)];exact ih (k+1) (by omega) (by omega)
 intro k hk;exact this _ k rfl hk
theorem Yar {X Y α:Type} {f:X->Option (X ⊕ Y)} (l:List α) (p:α->Bool) (st:Nat->X) (hit:Nat->Y) (miss:Y)
  (h1:∀ k (h:k < l.length),f (st k)=if p l[k] then some (.inr (hit k)) else some (.inl (st (k+1)))) (h2:f (st l.length)=some (.inr miss)) :
  loop f (st 0)=some (match l.findIdx? p with | some i=>hit i | none=>miss):=by
 have:∀ d k,l.length - k=d->k <= l.length->loop f (st k)=some (match (l.drop k).findIdx? p with | some i=>hit (k+i) | none=>miss):=by
  intro d;induction d with
  | zero =>
   intro k h hk;obtain rfl:k=l.length:=by omega
   rw[Yaq,h2,List.drop_length]; rfl
  | succ d ih =>
   intro k h hk;have hlt:k < l.length:=by omega
   rw[Yaq,h1 k hlt,List.drop_eq_getElem_cons hlt,List.findIdx?_cons];by_cases hp:p l[k]=true
   ·rw[if_pos hp,if_pos hp]; rfl
   ·rw[if_neg hp,if_neg hp];show loop f (st (k+1))=_;rw[ih (k+1) (by omega) (by omega)];cases (l.drop (k+1)).findIdx? p with
    | none=>rfl
    | some i=>simp only[Option.map_some]; congr 2; omega
 have h:=this _ 0 rfl (Nat.zero_le _);rw[h,List.drop_zero];cases l.findIdx? p with
 | none=>rfl
 | some i=>simp
theorem Yck {κ α:Type} {eq:κ->κ->Bool} {x:κ} (u v:α):∀ (l:List (κ × α)),mset (mput eq x u l) (mpos eq x l) v=mput eq x v l
 | []=>rfl
 | p :: l=>by
  show mset (bif eq x p.1 then (x,u) :: l else p :: mput eq x u l) (bif eq x p.1 then 0 else mpos eq x l+1) v=(bif eq x p.1 then (x,v) :: l else p :: mput eq x v l)
  cases h:eq x p.1 with
  | true=>rfl
  | false =>
   simp only[cond_false];show p :: mset (mput eq x u l) (mpos eq x l) v=_;rw[Yck u v l]
theorem Ycd {κ α:Type} {eq:κ->κ->Bool} {x:κ} (u:α):∀ (l:List (κ × α)),mpos eq x l < (mput eq x u l).length
 | []=>Nat.zero_lt_one
 | p :: l=>by
  show (bif eq x p.1 then 0 else mpos eq x l+1) < (bif eq x p.1 then (x,u) :: l else p :: mput eq x u l).length;cases h:eq x p.1 with
  | true=>simp
  | false =>
   have:=Ycd (eq:=eq) (x:=x) u l;simp only[cond_false,List.length_cons]; omega
theorem Yce {κ α:Type} {eq:κ->κ->Bool} {x:κ} (u:α):∀ (l:List (κ × α)),(mput eq x u l).length=if mhas eq x l=true then l.length else l.length+1
 | []=>rfl
 | p :: l=>by
  show (bif eq x p.1 then (x,u) :: l else p :: mput eq x u l).length=if (bif eq x p.1 then true else mhas eq x l)=true then l.length+1 else l.length+1+1
  cases h:eq x p.1 with
  | true=>simp
  | false =>
   simp only[cond_false,List.length_cons,Yce u l];split <;> rfl
theorem Ych {κ α:Type} [DecidableEq κ] {eq:κ->κ->Bool} (he:∀ a b,eq a b=true ↔ a=b) {z:α} (x:κ) (u:α) (y:κ):∀ (l:List (κ × α)),mlook eq z y (mput eq x u l)=if y=x then u else mlook eq z y l
 | []=>by
  show (bif eq y x then u else z)=_;by_cases h:y=x
  ·rw[(he y x).2 h,if_pos h]; rfl
  ·rw[if_neg h];cases hb:eq y x with
   | true=>exact absurd ((he y x).1 hb) h
   | false=>rfl
 | p :: l=>by
  show mlook eq z y (bif eq x p.1 then (x,u) :: l else p :: mput eq x u l)=if y=x then u else (bif eq y p.1 then p.2 else mlook eq z y l)
  cases h:eq x p.1 with
  | true =>
   have hx:=(he _ _).1 h;show (bif eq y x then u else mlook eq z y l)=_;by_cases h2:y=x
   ·rw[(he y x).2 h2,if_pos h2]; rfl
   ·rw[if_neg h2,<- hx];cases hb:eq y x with
    | true=>exact absurd ((he y x).1 hb) h2
    | false=>rfl
  | false =>
   show (bif eq y p.1 then p.2 else mlook eq z y (mput eq x u l))=_;rw[Ych he x u y l];cases hb:eq y p.1 with
   | false=>rfl
   | true =>
    have hy:=(he _ _).1 hb;have hne:¬ y=x:=fun e=>by rw[e] at hb; rw[hb] at h; cases h
    simp[hne]
theorem Ycf {κ α:Type} {eq:κ->κ->Bool} (he:∀ a b,eq a b=true ↔ a=b) (x:κ) (u:α) (y:κ):∀ (l:List (κ × α)),mhas eq y (mput eq x u l)=(eq y x || mhas eq y l)
 | []=>by
  show (bif eq y x then true else false)=(eq y x || false)
  cases eq y x <;> rfl
 | p :: l=>by
  show mhas eq y (bif eq x p.1 then (x,u) :: l else p :: mput eq x u l)=(eq y x || (bif eq y p.1 then true else mhas eq y l))
  cases h:eq x p.1 with
  | true =>
   have hx:=(he _ _).1 h;show (bif eq y x then true else mhas eq y l)=_;rw[<- hx];cases eq y x <;> rfl
  | false =>
   show (bif eq y p.1 then true else mhas eq y (mput eq x u l))=_;rw[Ycf he x u y l];cases eq y p.1 <;> cases eq y x <;> rfl
theorem bif_t {α:Type} {b:Bool} {x y:α} (h:b=true):(bif b then x else y)=x:=by rw[h]; rfl
theorem bif_f {α:Type} {b:Bool} {x y:α} (h:b=false):(bif b then x else y)=y:=by rw[h]; rfl
theorem decE {p q:Prop} {i:Decidable p} {j:Decidable q} (h:p ↔ q):some (@decide p i)=some (@decide q j):=by
 by_cases hp:p
 ·rw[decide_eq_true hp,decide_eq_true (h.1 hp)]
 ·rw[decide_eq_false hp,decide_eq_false (fun hq=>hp (h.2 hq))]
theorem decF {p:Prop} {i:Decidable p} (h:¬ p):some false=some (@decide p i):=by rw[decide_eq_false h]
theorem decT {p:Prop} {i:Decidable p} (h:p):some true=some (@decide p i):=by rw[decide_eq_true h]
theorem bS9 {α β:Type _} (a:α) (f:α->Option β):(some a).bind f=f a:=rfl
theorem dF9 {p:Prop} [Decidable p]:¬p->decide p=false:=decide_eq_false
theorem dT9 {p:Prop} [Decidable p]:p->decide p=true:=decide_eq_true
theorem bn9 {α:Type _} [BEq α] [LawfulBEq α] {a b:α}:(a==b)=false↔a≠b:=beq_eq_false_iff_ne
theorem an9 {α:Type _} (a:List α):a++[]=a:=List.append_nil a
theorem ms9 {α:Type _} {a b:α}:a∈[b]↔a=b:=List.mem_singleton
theorem gm9 {α:Type _} {l:List α} {n:Nat} (h:n<l.length):l[n]∈l:=List.getElem_mem h
theorem Ycy {α:Type} [BEq α] [LawfulBEq α]:∀ (l L:List α),l.Nodup->(∀ x ∈ l,x ∈ L)->l.length <= L.length
 | [],L,_,_=>Nat.zero_le _
 | a :: l,L,h,hs=>by
  obtain ⟨h1,h2⟩:=List.nodup_cons.1 h;have ha:=hs a (List.mem_cons_self ..);have:=Ycy l (L.erase a) h2 (fun x hx=>(List.mem_erase_of_ne (show x ≠ a from fun e=>h1 (by rw[<- e]; exact hx))).2 (hs x (List.mem_cons_of_mem _ hx)));rw[List.length_erase_of_mem ha] at this;have:=List.length_pos_of_mem ha;simp only[List.length_cons]; omega
theorem Yas {X Y:Type} {f:X->Option (X ⊕ Y)} (n:Nat) (st:Nat->X) (q:Nat->Option Y) (z:Y)
  (h1:∀ k,k < n->f (st k)=match q k with | none=>some (.inl (st (k+1))) | some y=>some (.inr y)) (h2:f (st n)=some (.inr z)) :
  loop f (st 0)=some (((List.range n).findSome? q).getD z):=by
 have:∀ d k,n - k=d->k <= n->loop f (st k)=some (((List.range' k (n - k)).findSome? q).getD z):=by
  intro d;induction d with
  | zero =>
   intro k h hk;obtain rfl:k=n:=by omega
   rw[Yaq,h2,Nat.sub_self]; rfl
  | succ d ih =>
   intro k h hk;rw[Yaq,h1 k (by omega),show n - k=(n - (k+1))+1 by omega,List.range'_succ,List.findSome?_cons];cases hq:q k with
   | none=>exact ih (k+1) (by omega) (by omega)
   | some y=>rfl
 rw[List.range_eq_range',this n 0 (by omega) (Nat.zero_le _),Nat.sub_zero]
noncomputable def tB (p:Prop):Bool:=@decide p (Classical.propDecidable p)
theorem tB_t {p:Prop} (h:p):tB p=true:=by unfold tB; exact @dT9 p (Classical.propDecidable p) h
theorem tB_f {p:Prop} (h:¬ p):tB p=false:=by unfold tB; exact @dF9 p (Classical.propDecidable p) h
theorem Yjk {p:Prop}:tB p=true ↔ p:=by
 by_cases hp:p
 ·rw[tB_t hp]; simp[hp]
 ·rw[tB_f hp]; simp[hp]
theorem tB_inb (i:Int) (n:Nat):inb i n=tB (0 <= i/\i < n):=by
 by_cases h:0 <= i/\i < n
 ·rw[tB_t h]; exact inbL.2 h
 ·rw[tB_f h];cases hb:inb i n with
  | true=>exact absurd (inbL.1 hb) h
  | false=>rfl
theorem tB_iff {b:Bool} {p:Prop} (h:b=true ↔ p):b=tB p:=by
 by_cases hp:p
 ·rw[tB_t hp]; exact h.2 hp
 ·rw[tB_f hp];cases b with
  | true=>exact absurd (h.1 rfl) hp
  | false=>rfl
theorem neg1:(Int.negSucc 0)=(-1:Int):=rfl
open Go.Proofs
theorem Y6c:∀ (a b:List Int),a.Pairwise (· < ·)->b.Pairwise (· < ·)->(∀ x,x ∈ a ↔ x ∈ b)->a=b
 | [],[],_,_,_=>rfl
 | [],y :: b,_,_,h=>absurd ((h y).2 List.mem_cons_self) (by simp)
 | x :: a,[],_,_,h=>absurd ((h x).1 List.mem_cons_self) (by simp)
 | x :: a,y :: b,ha,hb,h=>by
  have ha':=List.pairwise_cons.1 ha;have hb':=List.pairwise_cons.1 hb
  have hxy:x=y:=by
   rcases List.mem_cons.1 ((h x).1 List.mem_cons_self) with e | e
   ·exact e
   ·rcases List.mem_cons.1 ((h y).2 List.mem_cons_self) with e2 | e2
    ·exact e2.symm
    ·have:=hb'.1 x e; have:=ha'.1 y e2; omega
  subst hxy;rw[Y6c a b ha'.2 hb'.2 fun z=>?_];constructor
  ·intro hz;rcases List.mem_cons.1 ((h z).1 (List.mem_cons_of_mem _ hz)) with e | e
   ·have:=ha'.1 z hz; omega
   ·exact e
  ·intro hz;rcases List.mem_cons.1 ((h z).2 (List.mem_cons_of_mem _ hz)) with e | e
   ·have:=hb'.1 z hz; omega
   ·exact e
theorem Yiu (l:List Int) (x:Int):x ∈ sortI l ↔ x ∈ l:=by unfold sortI; simp
theorem Yis (l:List Int):(sortI l).Pairwise (· <= ·):=by
 unfold sortI;have:=List.pairwise_mergeSort (le:=fun x y:Int=>decide (x <= y)) (by intro a b c h1 h2; simp at *; omega) (by intro a b; simp; omega) l;simpa using this
theorem Yiy (l:List Int):Yix l 0 l.length=sortI l:=by
 unfold Yix cut over;rw[List.take_zero,List.drop_zero,List.take_length,List.take_of_length_le (by rw[Yit]; exact Nat.le_refl _),List.nil_append,Nat.zero_add,List.drop_length,an9]
theorem Y4m (l:List Int) (h:l.Pairwise (· <= ·)):∀ m,m <= l.length->(Go.Lib.compactUpTo l.toArray m).Pairwise (· < ·)/\∀ x,x ∈ Go.Lib.compactUpTo l.toArray m ↔ ∃ j,∃ hj:j < l.length,j < m/\l[j]=x
 | 0,_=>by
  refine ⟨by simp[Go.Lib.compactUpTo],fun x=>?_⟩;simp[Go.Lib.compactUpTo]
 | m+1,hm=>by
  obtain ⟨i1,i2⟩:=Y4m l h m (by omega)
  have hget:∀ j (hj:j < l.length),l.toArray[j]! = l[j]:=fun j hj=>by
   rw[getElem!_def,List.getElem?_toArray,List.getElem?_eq_getElem hj]
  have hle:∀ i j (hi:i < l.length) (hj:j < l.length),i <= j->l[i] <= l[j]:=fun i j hi hj hij=>by
   rcases Nat.lt_or_ge i j with q | q
   ·exact List.pairwise_iff_getElem.1 h i j hi hj q
   ·obtain rfl:i=j:=by omega
    exact Int.le_refl _
  rw[Go.Lib.compactUpTo_succ];by_cases hk:Go.Lib.keeps l.toArray m=true
  ·rw[if_pos hk,hget m (by omega)]
   have hk2:m=0 \/ l[m] ≠ l[m - 1]:=by
    unfold Go.Lib.keeps at hk;rcases Nat.eq_zero_or_pos m with e | e
    ·exact .inl e
    ·right;have:=hk;simp only[hget m (by omega),hget (m - 1) (by omega)] at this;intro q;simp[q] at this;omega
   refine ⟨?_,fun x=>?_⟩
   ·rw[List.pairwise_append];refine ⟨i1,List.pairwise_singleton _ _,fun x hx y hy=>?_⟩;obtain ⟨j,hj,hjm,rfl⟩:=(i2 x).1 hx;obtain rfl:=List.mem_singleton.1 hy;rcases hk2 with e | e
    ·omega
    ·have h1:=hle j (m - 1) hj (by omega) (by omega);have h2:=hle (m - 1) m (by omega) (by omega) (by omega);omega
   ·rw[List.mem_append,i2,ms9];constructor
    ·rintro (⟨j,hj,hjm,e⟩ | e)
     ·exact ⟨j,hj,by omega,e⟩
     ·exact ⟨m,by omega,by omega,e.symm⟩
    ·rintro ⟨j,hj,hjm,e⟩;rcases Nat.lt_or_ge j m with q | q
     ·exact .inl ⟨j,hj,q,e⟩
     ·obtain rfl:j=m:=by omega
      exact .inr e.symm
  ·rw[if_neg hk,an9];refine ⟨i1,fun x=>?_⟩;rw[i2]
   have hk2:0 < m/\l[m]=l[m - 1]:=by
    unfold Go.Lib.keeps at hk;rcases Nat.eq_zero_or_pos m with e | e
    ·subst e; simp at hk
    ·refine ⟨e,?_⟩;simp only[hget m (by omega),hget (m - 1) (by omega)] at hk;simp at hk;exact hk.2
   constructor
   ·rintro ⟨j,hj,hjm,e⟩;exact ⟨j,hj,by omega,e⟩
   ·rintro ⟨j,hj,hjm,e⟩;rcases Nat.lt_or_ge j m with q | q
    ·exact ⟨j,hj,q,e⟩
    ·obtain rfl:j=m:=by omega
     exact ⟨j - 1,by omega,by omega,by rw[<- hk2.2]; exact e⟩
theorem Y4p (l b:List Int) (hb:b.Pairwise (· < ·)) (h:∀ x,x ∈ b ↔ x ∈ l):Y4h (Yix l 0 l.length)=b:=by
 rw[Yiy];have hs:=Y4m (sortI l) (Yis l) (sortI l).length (Nat.le_refl _);refine Y6c _ _ hs.1 hb fun x=>?_
 rw[show x ∈ Y4h (sortI l) ↔ _ from hs.2 x,h,<- Yiu l x,List.mem_iff_getElem];constructor
 ·rintro ⟨j,hj,_,e⟩; exact ⟨j,hj,e⟩
 ·rintro ⟨j,hj,e⟩; exact ⟨j,hj,hj,e⟩
end Go.Proofs.YtifbgkikkiallaaGreat.VX
namespace Go.Proofs.YtifbgkikkiallaaGreat.VX.VxZ_Z
abbrev Ev:=Int × (Int × (Int × (Int × Int)))
def zEv:Ev:=(0,0,0,0,0)
abbrev Ev.G (e:Ev):Int:=e.1
abbrev Ev.K (e:Ev):Int:=e.2.1
abbrev Ev.N (e:Ev):Int:=e.2.2.2.1
abbrev Ev.S (e:Ev):Int:=e.2.2.2.2
def cntE (l:List Ev) (k o:Int):Nat:=(l.filter fun e=>e.2.1 == k && e.2.2.1 == o).length
def cntT (l:List Ev) (k:Int):Nat:=(l.filter fun e=>e.2.1 == k).length
def lastE (g:Int):List Ev->Nat->Nat
 | [],_=>0
 | e :: l,n=>if lastE g l (n+1)=0 then (if e.1=g then n+1 else 0) else lastE g l (n+1)
def firstE (o:Int):List Ev->Int
 | []=>0
 | e :: l=>if e.2.1=13/\e.2.2.1=o then e.1+1 else firstE o l
theorem Y45 (l:List Ev) (e:Ev) (k o:Int):cntE (l++[e]) k o=cntE l k o+if e.2.1=k/\e.2.2.1=o then 1 else 0:=by
 unfold cntE;rw[List.filter_append,ln9];congr 1;by_cases h:e.2.1=k/\e.2.2.1=o
 ·rw[if_pos h,List.filter_cons_of_pos (by simpa using h)]; rfl
 ·rw[if_neg h,List.filter_cons_of_neg (by simpa using h)]; rfl
theorem Y4c (l:List Ev) (e:Ev) (k:Int):cntT (l++[e]) k=cntT l k+if e.2.1=k then 1 else 0:=by
 unfold cntT;rw[List.filter_append,ln9];congr 1;by_cases h:e.2.1=k
 ·rw[if_pos h,List.filter_cons_of_pos (by simpa using h)]; rfl
 ·rw[if_neg h,List.filter_cons_of_neg (by simpa using h)]; rfl
theorem Y48 (l:List Ev) (k o:Int):cntE l k o <= l.length:=List.length_filter_le _ _
theorem Y4d (l:List Ev) (k:Int):cntT l k <= l.length:=List.length_filter_le _ _
theorem Y9v (g:Int) (e:Ev):∀ (l:List Ev) (n:Nat),lastE g (l++[e]) n=if e.1=g then n+l.length+1 else lastE g l n
 | [],n=>by
  show (if (0:Nat)=0 then (if e.1=g then n+1 else 0) else 0)=_;rw[if_pos rfl]; rfl
 | a :: l,n=>by
  show (if lastE g (l++[e]) (n+1)=0 then (if a.1=g then n+1 else 0) else lastE g (l++[e]) (n+1))=_;rw[Y9v g e l (n+1)];by_cases h:e.1=g
  ·rw[if_pos h,if_pos h,if_neg (by omega)]; simp; omega
  ·rw[if_neg h,if_neg h]; rfl
theorem Y9w (g:Int):∀ (l:List Ev) (n:Nat),lastE g l n <= n+l.length
 | [],n=>Nat.zero_le _
 | a :: l,n=>by
  have:=Y9w g l (n+1);simp only[lastE,List.length_cons];split
  ·split <;> omega
  ·omega
theorem Y6z (o:Int) (a:Ev) (l:List Ev):firstE o (a :: l)=if a.2.1=13/\a.2.2.1=o then a.1+1 else firstE o l:=rfl
theorem Y6y (o:Int) (e:Ev):∀ l:List Ev,(∀ x ∈ l,0 <= x.1)->firstE o (l++[e])=if firstE o l=0 then (if e.2.1=13/\e.2.2.1=o then e.1+1 else 0) else firstE o l
 | [],_=>by
  show (if e.2.1=13/\e.2.2.1=o then e.1+1 else 0)=if (0:Int)=0 then _ else _
  rw[if_pos (c:=(0:Int)=0) rfl]
 | a :: l,hG=>by
  have h0:=hG a (List.mem_cons_self ..);rw[List.cons_append,Y6z,Y6z];by_cases h:a.2.1=13/\a.2.2.1=o
  ·rw[if_pos h,if_pos h,if_neg (by omega)]
  ·rw[if_neg h,if_neg h,Y6y o e l (fun x hx=>hG x (List.mem_cons_of_mem _ hx))]
def getE (l:List Ev) (s:Int):Ev:=l.getD s.toNat zEv
def begK (k:Int):Prop:=k=0 \/ k=3 \/ k=5 \/ k=6 \/ k=9 \/ k=11 \/ k=15
instance (k:Int):Decidable (begK k):=by unfold begK; infer_instance
def orgK (k:Int):Int:=if k=3 then 2 else if k=5 \/ k=6 then 4 else if k=9 then 8 else if k=11 then 10 else 13
def numK (k:Int):Prop:=k=3 \/ k=5
instance (k:Int):Decidable (numK k):=by unfold numK; infer_instance
def objK (caps:List Int) (k:Int):Int:=if 2 <= k/\k <= 7 then caps.length else if 10 <= k/\k <= 15 then 2 else if 8 <= k/\k <= 17 then 4 else 1
def capO (caps:List Int) (o:Int):Int:=caps.getD o.toNat 0
def shapeE (l:List Ev) (e:Ev):Prop:=0 <= e.1/\e.1 <= 7/\0 <= e.2.1/\e.2.1 <= 17/\0 <= e.2.2.2.1/\-1 <= e.2.2.2.2/\e.2.2.2.2 < l.length
def startE (l:List Ev) (e:Ev):Prop:=lastE e.1 l 0=0/\e.2.2.1=0/\e.2.2.2.1=0/\(if e.1=0 then e.2.2.2.2=-1 else 0 <= e.2.2.2.2/\(getE l e.2.2.2.2).2.1=1/\(getE l e.2.2.2.2).2.2.1=e.1)
def fromE (l:List Ev) (e:Ev):Prop:=if begK e.2.1 then 0 <= e.2.2.2.2/\e.2.2.2.2+1=lastE e.1 l 0/\((getE l e.2.2.2.2).2.1=orgK e.2.1/\(getE l e.2.2.2.2).2.2.1=e.2.2.1 \/ (getE l e.2.2.2.2).2.1=8/\e.2.1 <= 6) else e.2.2.2.2=-1
def ruleE (caps:List Int) (l:List Ev) (e:Ev):Prop :=
 (e.2.1=1->e.2.2.1=cntT l 0) /\
 (e.2.1=3->0 <= capO caps e.2.2.1/\cntE l 7 e.2.2.1=0/\e.2.2.2.1=cntE l 3 e.2.2.1/\e.2.2.2.1 <= cntE l 5 e.2.2.1+capO caps e.2.2.1) /\
 (e.2.1=5->0 <= capO caps e.2.2.1/\e.2.2.2.1=cntE l 5 e.2.2.1/\e.2.2.2.1 <= cntE l 3 e.2.2.1) /\
 (e.2.1=6->0 < cntE l 7 e.2.2.1/\cntE l 5 e.2.2.1=cntE l 3 e.2.2.1) /\
 (e.2.1=7->0 <= capO caps e.2.2.1/\cntE l 7 e.2.2.1=0) /\
 (e.2.1=11->cntE l 11 e.2.2.1=cntE l 12 e.2.2.1) /\
 (e.2.1=12->(cntE l 11 e.2.2.1:Int) - cntE l 12 e.2.2.1=1) /\
 (e.2.1=14->cntE l 14 e.2.2.1=0/\firstE e.2.2.1 l=e.1+1) /\
 (e.2.1=15->0 < cntE l 14 e.2.2.1)
def goodE (caps:List Int) (l:List Ev) (e:Ev):Prop :=
 shapeE l e/\if e.2.1=0 then startE l e else lastE e.1 l 0 ≠ 0/\(¬ numK e.2.1->e.2.2.2.1=0)/\(e.2.1 ≠ 1->0 <= e.2.2.1/\e.2.2.1 < objK caps e.2.1)/\fromE l e/\ruleE caps l e
def GoodL (caps:List Int) (l:List Ev):Prop:=∀ i (h:i < l.length),goodE caps (l.take i) l[i]
theorem Y89 {caps:List Int} {l:List Ev} (h:GoodL caps l):∀ x ∈ l,0 <= x.1:=by
 intro x hx;obtain ⟨i,hi,e⟩:=List.mem_iff_getElem.1 hx;have:=(h i hi).1.1;rw[e] at this; exact this
open Go.Proofs
abbrev St:=List Int × List Int × Int × List ((Int × Int) × Int) × List (Int × Int) × List (Int × Int)
def orgM:List (Int × Int):=[(3,2),(5,4),(6,4),(9,8),(11,10),(15,13)]
def lookC (k o:Int) (l:List ((Int × Int) × Int)):Int:=mlook (Ty.beq (.pair (.int .i64) (.int .i64))) (Ty.zero (.int .i64)) (k,o) l
def lookF (o:Int) (l:List (Int × Int)):Int:=mlook (Ty.beq (.int .i64)) (Ty.zero (.int .i64)) o l
structure JOK (caps:List Int) (l:List Ev) (s:St):Prop where
 caps:s.1=caps
 len:s.2.1.length=8
 last:∀ g:Nat,g < 8->s.2.1.getD g 0=(lastE (g:Int) l 0:Int)
 begun:s.2.2.1=(cntT l 0:Int)
 count:∀ k o,lookC k o s.2.2.2.1=(cntE l k o:Int)
 first:∀ o,lookF o s.2.2.2.2.1=firstE o l
 orig:s.2.2.2.2.2=orgM
theorem Ydq:Z8t ()=some orgM:=rfl
theorem zin_eq (n lo hi:Int):Z7p (n,lo,hi)=some (decide (lo <= n/\n <= hi)):=by
 unfold Z7p;simp only;by_cases h:n ≥ lo
 ·rw[bif_t (dT9 h)];by_cases h2:n <= hi
  ·rw[dT9 h2,dT9 (by omega)]
  ·rw[dF9 h2,dF9 (by omega)]
 ·rw[bif_f (dF9 h),dF9 (by omega)]
theorem n_eq (k:Int) (e:Ev) (s:St):Z7x (k,e,s)=some (lookC k e.2.2.1 s.2.2.2.1,s):=rfl
theorem Y36 (caps:List Int) (o:Int) (h:0 <= o):getAt (0:Int) caps (toN o)=capO caps o:=by
 unfold capO; rw[Y7v]; rfl
theorem Ydm (e:Ev) (s:St) (h0:0 <= e.2.2.1) (h1:e.2.2.1 < s.1.length):Z82 (e,s)=some (decide (0 <= capO s.1 e.2.2.1),s):=by
 unfold Z82;simp only;rw[bif_t (inbL.2 ⟨h0,h1⟩),Y36 _ _ h0]
theorem Yd8 (k:Int) (s:St):Z80 (k,s)=some (objK s.1 k,s):=by
 unfold Z80 objK;simp only[zin_eq,bS9];by_cases h:2 <= k/\k <= 7
 ·rw[dT9 h,if_pos h]; rfl
 ·rw[dF9 h,if_neg h];by_cases h2:10 <= k/\k <= 15
  ·rw[dT9 h2,if_pos h2]; rfl
  ·rw[dF9 h2,if_neg h2];by_cases h3:8 <= k/\k <= 17
   ·rw[dT9 h3,if_pos h3]; rfl
   ·rw[dF9 h3,if_neg h3]; rfl
theorem Y81 (l:List Ev) (s:Int):getAt ((0:Int),((0:Int),((0:Int),((0:Int),(0:Int))))) l (toN s)=getE l s:=by
 rw[Y7v]; rfl
theorem Y9z {caps:List Int} {l:List Ev} {s:St} (hJ:JOK caps l s) {g:Int} (h0:0 <= g) (h1:g <= 7):getAt (0:Int) s.2.1 (toN g)=(lastE g l 0:Int):=by
 rw[Y7v];have:=hJ.last g.toNat (by omega);rw[show ((g.toNat:Nat):Int)=g by omega] at this;exact this
theorem Y2c {caps:List Int} {l:List Ev} {s:St} (hJ:JOK caps l s) (e:Ev) (hs:shapeE l e):Z7t (l,e,s)=some (tB (startE l e),s):=by
 obtain ⟨g0,g1,k0,k1,n0,s0,s1⟩:=hs;unfold Z7t;simp only;rw[bif_t (inbL.2 ⟨g0,by omega⟩),Y9z hJ g0 g1];simp only[Y81];by_cases a:lastE e.1 l 0=0
 ·rw[bif_f (dF9 (by omega))];by_cases b:e.2.2.1=0
  ·rw[bif_f (by simpa using b)];by_cases c:e.2.2.2.1=0
   ·rw[bif_f (by simpa using c)];by_cases d:e.1=0
    ·rw[bif_t (by simpa using d)];by_cases f:e.2.2.2.2=-1
     ·rw[tB_t ⟨a,b,c,by rw[if_pos d]; exact f⟩,f]; rfl
     ·rw[tB_f (fun h=>f (by have:=h.2.2.2; rw[if_pos d] at this; exact this))];have:(e.2.2.2.2 == (-1:Int))=false:=by simpa using f
      show some (e.2.2.2.2 == (-1:Int),s)=_;rw[this]
    ·rw[bif_f (by simpa using d)];by_cases f:e.2.2.2.2=-1
     ·rw[bif_f (by rw[f]; rfl),tB_f (fun h=>by have:=h.2.2.2; rw[if_neg d] at this; omega)]
     ·rw[bif_t (by simpa using f),bif_t (inbL.2 ⟨by omega,by omega⟩)];by_cases g:(getE l e.2.2.2.2).2.1=1
      ·rw[bif_t (by simpa using g),bif_t (inbL.2 ⟨by omega,by omega⟩)];by_cases h:(getE l e.2.2.2.2).2.2.1=e.1
       ·rw[tB_t ⟨a,b,c,by rw[if_neg d]; exact ⟨by omega,g,h⟩⟩,h]; simp
       ·rw[tB_f (fun q=>h (by have:=q.2.2.2; rw[if_neg d] at this; exact this.2.2)),beq_eq_false_iff_ne.2 h]
      ·rw[bif_f (by simpa using g),tB_f (fun q=>g (by have:=q.2.2.2; rw[if_neg d] at this; exact this.2.1))]
   ·rw[bif_t (by simpa using c),tB_f (fun h=>c h.2.2.1)]
  ·rw[bif_t (by simpa using b),tB_f (fun h=>b h.2.1)]
 ·rw[bif_t (dT9 (by omega)),tB_f (fun h=>a h.1)]
theorem Ydo (k:Int):@mhas Int Int (Ty.beq (.int .i64)) k orgM=tB (k=3 \/ k=5 \/ k=6 \/ k=9 \/ k=11 \/ k=15):=by
 have hb:∀ a b:Int,Ty.beq (.int .i64) a b=(a == b):=fun _ _=>rfl
 by_cases h:k=3 \/ k=5 \/ k=6 \/ k=9 \/ k=11 \/ k=15
 ·rw[tB_t h];rcases h with rfl | rfl | rfl | rfl | rfl | rfl <;> rfl
 ·rw[tB_f h];simp only[not_or] at h;unfold orgM;simp only[mhas,hb,beq_eq_false_iff_ne.2 h.1,beq_eq_false_iff_ne.2 h.2.1,beq_eq_false_iff_ne.2 h.2.2.1,beq_eq_false_iff_ne.2 h.2.2.2.1,beq_eq_false_iff_ne.2 h.2.2.2.2.1,beq_eq_false_iff_ne.2 h.2.2.2.2.2,cond_false]
theorem Ydp (k:Int) (h:k=3 \/ k=5 \/ k=6 \/ k=9 \/ k=11 \/ k=15):@mlook Int Int (Ty.beq (.int .i64)) (Ty.zero (.int .i64)) k orgM=orgK k:=by
 rcases h with rfl | rfl | rfl | rfl | rfl | rfl <;> rfl
theorem Y2a {caps:List Int} {l:List Ev} {s:St} (hJ:JOK caps l s) (e:Ev) (hs:shapeE l e) (hl:l.length < 30000) (hk:e.2.1 ≠ 0):Z7r (l,e,s)=some (tB (fromE l e),s):=by
 obtain ⟨g0,g1,k0,k1,n0,s0,s1⟩:=hs;have hbg:begK e.2.1 ↔ (e.2.1=3 \/ e.2.1=5 \/ e.2.1=6 \/ e.2.1=9 \/ e.2.1=11 \/ e.2.1=15):=by unfold begK; omega
 have hle:=Y9w e.1 l 0;unfold Z7r;simp only;rw[hJ.orig,Ydo,Y9z hJ g0 g1];simp only[Y81];by_cases b:e.2.1=3 \/ e.2.1=5 \/ e.2.1=6 \/ e.2.1=9 \/ e.2.1=11 \/ e.2.1=15
 ·have hfe:∀ p:Prop,(fromE l e ↔ p)->tB (fromE l e)=tB p:=fun p h=>by rw[propext h]
  rw[tB_t b,bif_f (by rfl),Ydp _ b]
  have hF:fromE l e ↔ (0 <= e.2.2.2.2/\e.2.2.2.2+1=lastE e.1 l 0/\((getE l e.2.2.2.2).2.1=orgK e.2.1/\(getE l e.2.2.2.2).2.2.1=e.2.2.1 \/ (getE l e.2.2.2.2).2.1=8/\e.2.1 <= 6)):=by
   unfold fromE; rw[if_pos (hbg.2 b)]
  by_cases c:e.2.2.2.2=-1
  ·rw[bif_t (by rw[c]; rfl),tB_f (fun h=>by have:=(hF.1 h).1; omega),<- hJ.orig]
  ·rw[bif_f (by simpa using c),bif_t (inbL.2 ⟨g0,by omega⟩),wrapI (by omega) (by omega)];by_cases d:e.2.2.2.2=(lastE e.1 l 0:Int) - 1
   ·rw[bif_f (by simpa using d),bif_t (inbL.2 ⟨by omega,by omega⟩)];by_cases f:(getE l e.2.2.2.2).2.1=orgK e.2.1
    ·rw[bif_t (by simpa using f)];by_cases h:(getE l e.2.2.2.2).2.2.1=e.2.2.1
     ·rw[bif_t (by simpa using h),tB_t (hF.2 ⟨by omega,by omega,.inl ⟨f,h⟩⟩),<- hJ.orig]
     ·rw[bif_f (by simpa using h)];by_cases j:(getE l e.2.2.2.2).2.1=8
      ·rw[bif_t (by simpa using j)];by_cases q:e.2.1 <= 6
       ·rw[dT9 q,tB_t (hF.2 ⟨by omega,by omega,.inr ⟨j,q⟩⟩),<- hJ.orig]
       ·rw[dF9 q,tB_f (fun z=>(hF.1 z).2.2.elim (fun u=>h u.2) (fun u=>q u.2)),<- hJ.orig]
      ·rw[bif_f (by simpa using j),tB_f (fun z=>(hF.1 z).2.2.elim (fun u=>h u.2) (fun u=>j u.1)),<- hJ.orig]
    ·rw[bif_f (by simpa using f)];by_cases j:(getE l e.2.2.2.2).2.1=8
     ·rw[bif_t (by simpa using j)];by_cases q:e.2.1 <= 6
      ·rw[dT9 q,tB_t (hF.2 ⟨by omega,by omega,.inr ⟨j,q⟩⟩),<- hJ.orig]
      ·rw[dF9 q,tB_f (fun z=>(hF.1 z).2.2.elim (fun u=>f u.1) (fun u=>q u.2)),<- hJ.orig]
     ·rw[bif_f (by simpa using j),tB_f (fun z=>(hF.1 z).2.2.elim (fun u=>f u.1) (fun u=>j u.1)),<- hJ.orig]
   ·rw[bif_t (by simpa using d),tB_f (fun h=>d (by have:=(hF.1 h).2.1; omega)),<- hJ.orig]
 ·rw[tB_f b,bif_t (by rfl),<- hJ.orig];have hF:fromE l e ↔ e.2.2.2.2=-1:=by unfold fromE; rw[if_neg (fun h=>b (hbg.1 h))]
  by_cases c:e.2.2.2.2=-1
  ·rw[tB_t (hF.2 c),c]; rfl
  ·rw[tB_f (fun h=>c (hF.1 h))];have:(e.2.2.2.2 == (-1:Int))=false:=by simpa using c
   show some (e.2.2.2.2 == (-1:Int),s)=_;rw[this]
def ruleK (k:Int) (caps:List Int) (l:List Ev) (e:Ev):Prop:=match k with
 | 1=>e.2.2.1=cntT l 0
 | 3=>0 <= capO caps e.2.2.1/\cntE l 7 e.2.2.1=0/\e.2.2.2.1=cntE l 3 e.2.2.1/\e.2.2.2.1 <= cntE l 5 e.2.2.1+capO caps e.2.2.1
 | 5=>0 <= capO caps e.2.2.1/\e.2.2.2.1=cntE l 5 e.2.2.1/\e.2.2.2.1 <= cntE l 3 e.2.2.1
 | 6=>0 < cntE l 7 e.2.2.1/\cntE l 5 e.2.2.1=cntE l 3 e.2.2.1
 | 7=>0 <= capO caps e.2.2.1/\cntE l 7 e.2.2.1=0
 | 11=>cntE l 11 e.2.2.1=cntE l 12 e.2.2.1
 | 12=>(cntE l 11 e.2.2.1:Int) - cntE l 12 e.2.2.1=1
 | 14=>cntE l 14 e.2.2.1=0/\firstE e.2.2.1 l=e.1+1
 | 15=>0 < cntE l 14 e.2.2.1
 | _=>True
theorem Ygj {caps:List Int} {l:List Ev} {s:St} (hJ:JOK caps l s) (e:Ev):Z8b (e,s)=some (tB (ruleK 1 caps l e),s):=by
 unfold Z8b;simp only;rw[hJ.begun];by_cases h:e.2.2.1=(cntT l 0:Int)
 ·rw[tB_t (show ruleK 1 caps l e from h),h,<- hJ.begun]; simp
 ·rw[tB_f (show ¬ ruleK 1 caps l e from h),beq_eq_false_iff_ne.2 h,<- hJ.begun]
theorem Ygi {caps:List Int} {l:List Ev} {s:St} (hJ:JOK caps l s) (e:Ev) (hl:l.length < 30000):Z87 (e,s)=some ((cntE l 11 e.2.2.1:Int) - cntE l 12 e.2.2.1,s):=by
 have a:=Y48 l 11 e.2.2.1;have b:=Y48 l 12 e.2.2.1;unfold Z87;simp only[n_eq,bS9,hJ.count];rw[wrapI (by omega) (by omega)]
theorem Y37 {caps:List Int} (h:∀ n ∈ caps,-1 <= n/\n <= 3) (o:Int):-1 <= capO caps o/\capO caps o <= 3:=by
 unfold capO;by_cases hl:o.toNat < caps.length
 ·rw[show caps.getD o.toNat 0=caps[o.toNat] by simp[List.getD,hl]];exact h _ (gm9 hl)
 ·rw[show caps.getD o.toNat 0=0 by simp[List.getD,hl]]; omega
theorem Ygk {caps:List Int} {l:List Ev} {s:St} (hJ:JOK caps l s) (e:Ev) (hl:l.length < 30000) (hc:∀ n ∈ caps,-1 <= n/\n <= 3) (h0:0 <= e.2.2.1) (h1:e.2.2.1 < caps.length):Z8e (e,s)=some (tB (ruleK 3 caps l e),s):=by
 have a:=Y48 l 5 e.2.2.1;have b:=Y37 hc e.2.2.1;have hR:ruleK 3 caps l e ↔ (0 <= capO caps e.2.2.1/\cntE l 7 e.2.2.1=0/\e.2.2.2.1=cntE l 3 e.2.2.1/\e.2.2.2.1 <= cntE l 5 e.2.2.1+capO caps e.2.2.1):=Iff.rfl;unfold Z8e;simp only;rw[Ydm e s h0 (by rw[hJ.caps]; exact h1)];simp only[n_eq,bS9,hJ.count,Y36 _ _ h0,hJ.caps];by_cases c1:0 <= capO caps e.2.2.1
 ·rw[bif_t (dT9 c1)];by_cases c2:cntE l 7 e.2.2.1=0
  ·rw[bif_t (by rw[c2]; rfl)];by_cases c3:e.2.2.2.1=cntE l 3 e.2.2.1
   ·rw[bif_t (by simpa using c3),bif_t (inbL.2 ⟨h0,h1⟩),wrapI (by omega) (by omega)];by_cases c4:e.2.2.2.1 <= cntE l 5 e.2.2.1+capO caps e.2.2.1
    ·rw[dT9 c4,tB_t (hR.2 ⟨c1,c2,c3,c4⟩),<- hJ.caps]
    ·rw[dF9 c4,tB_f (fun h=>c4 (hR.1 h).2.2.2),<- hJ.caps]
   ·rw[bif_f (by simpa using c3),tB_f (fun h=>c3 (hR.1 h).2.2.1),<- hJ.caps]
  ·rw[bif_f (by simp; omega),tB_f (fun h=>c2 (hR.1 h).2.1),<- hJ.caps]
 ·rw[bif_f (dF9 c1),tB_f (fun h=>c1 (hR.1 h).1),<- hJ.caps]
theorem Ygl {caps:List Int} {l:List Ev} {s:St} (hJ:JOK caps l s) (e:Ev) (h0:0 <= e.2.2.1) (h1:e.2.2.1 < caps.length):Z8g (e,s)=some (tB (ruleK 5 caps l e),s):=by
 have hR:ruleK 5 caps l e ↔ (0 <= capO caps e.2.2.1/\e.2.2.2.1=cntE l 5 e.2.2.1/\e.2.2.2.1 <= cntE l 3 e.2.2.1):=Iff.rfl;unfold Z8g;simp only;rw[Ydm e s h0 (by rw[hJ.caps]; exact h1)];simp only[n_eq,bS9,hJ.count,hJ.caps];by_cases c1:0 <= capO caps e.2.2.1
 ·rw[bif_t (dT9 c1)];by_cases c2:e.2.2.2.1=cntE l 5 e.2.2.1
  ·rw[bif_t (by simpa using c2)];by_cases c3:e.2.2.2.1 <= cntE l 3 e.2.2.1
   ·rw[dT9 c3,tB_t (hR.2 ⟨c1,c2,c3⟩),<- hJ.caps]
   ·rw[dF9 c3,tB_f (fun h=>c3 (hR.1 h).2.2),<- hJ.caps]
  ·rw[bif_f (by simpa using c2),tB_f (fun h=>c2 (hR.1 h).2.1),<- hJ.caps]
 ·rw[bif_f (dF9 c1),tB_f (fun h=>c1 (hR.1 h).1),<- hJ.caps]
theorem Ygm {caps:List Int} {l:List Ev} {s:St} (hJ:JOK caps l s) (e:Ev):Z8i (e,s)=some (tB (ruleK 6 caps l e),s):=by
 have hR:ruleK 6 caps l e ↔ (0 < cntE l 7 e.2.2.1/\cntE l 5 e.2.2.1=cntE l 3 e.2.2.1):=Iff.rfl;unfold Z8i;simp only[n_eq,bS9,hJ.count];by_cases c1:0 < cntE l 7 e.2.2.1
 ·rw[bif_t (dT9 (by omega))];by_cases c2:cntE l 5 e.2.2.1=cntE l 3 e.2.2.1
  ·rw[tB_t (hR.2 ⟨c1,c2⟩),c2]; simp
  ·rw[tB_f (fun h=>c2 (hR.1 h).2),beq_eq_false_iff_ne.2 (by omega)]
 ·rw[bif_f (dF9 (by omega)),tB_f (fun h=>c1 (hR.1 h).1)]
theorem Ygn {caps:List Int} {l:List Ev} {s:St} (hJ:JOK caps l s) (e:Ev) (h0:0 <= e.2.2.1) (h1:e.2.2.1 < caps.length):Z8k (e,s)=some (tB (ruleK 7 caps l e),s):=by
 have hR:ruleK 7 caps l e ↔ (0 <= capO caps e.2.2.1/\cntE l 7 e.2.2.1=0):=Iff.rfl;unfold Z8k;simp only;rw[Ydm e s h0 (by rw[hJ.caps]; exact h1)];simp only[n_eq,bS9,hJ.count,hJ.caps];by_cases c1:0 <= capO caps e.2.2.1
 ·rw[bif_t (dT9 c1)];by_cases c2:cntE l 7 e.2.2.1=0
  ·rw[tB_t (hR.2 ⟨c1,c2⟩),c2,<- hJ.caps]; rfl
  ·rw[tB_f (fun h=>c2 (hR.1 h).2),beq_eq_false_iff_ne.2 (by omega),<- hJ.caps]
 ·rw[bif_f (dF9 c1),tB_f (fun h=>c1 (hR.1 h).1),<- hJ.caps]
theorem Ygo {caps:List Int} {l:List Ev} {s:St} (hJ:JOK caps l s) (e:Ev) (hl:l.length < 30000):Z8m (e,s)=some (tB (ruleK 11 caps l e),s):=by
 have hR:ruleK 11 caps l e ↔ cntE l 11 e.2.2.1=cntE l 12 e.2.2.1:=Iff.rfl;unfold Z8m;simp only;rw[Ygi hJ e hl];simp only[bS9];by_cases c:cntE l 11 e.2.2.1=cntE l 12 e.2.2.1
 ·rw[tB_t (hR.2 c),c,Int.sub_self]; rfl
 ·rw[tB_f (fun h=>c (hR.1 h)),beq_eq_false_iff_ne.2 (by omega)]
theorem Ygp {caps:List Int} {l:List Ev} {s:St} (hJ:JOK caps l s) (e:Ev) (hl:l.length < 30000):Z8o (e,s)=some (tB (ruleK 12 caps l e),s):=by
 have hR:ruleK 12 caps l e ↔ (cntE l 11 e.2.2.1:Int) - cntE l 12 e.2.2.1=1:=Iff.rfl;unfold Z8o;simp only;rw[Ygi hJ e hl];simp only[bS9];by_cases c:(cntE l 11 e.2.2.1:Int) - cntE l 12 e.2.2.1=1
 ·rw[tB_t (hR.2 c),c]; rfl
 ·rw[tB_f (fun h=>c (hR.1 h)),beq_eq_false_iff_ne.2 c]
theorem Ygh {caps:List Int} {l:List Ev} {s:St} (hJ:JOK caps l s) (e:Ev):Z88 (e,s)=some (tB (ruleK 15 caps l e),s):=by
 have hR:ruleK 15 caps l e ↔ 0 < cntE l 14 e.2.2.1:=Iff.rfl;unfold Z88;simp only[n_eq,bS9,hJ.count];by_cases c:0 < cntE l 14 e.2.2.1
 ·rw[tB_t (hR.2 c),dT9 (by omega)]
 ·rw[tB_f (fun h=>c (hR.1 h)),dF9 (by omega)]
theorem Ygq {caps:List Int} {l:List Ev} {s:St} (hJ:JOK caps l s) (e:Ev) (g0:0 <= e.1) (g1:e.1 <= 7):Z8q (e,s)=some (tB (ruleK 14 caps l e),s):=by
 have hR:ruleK 14 caps l e ↔ (cntE l 14 e.2.2.1=0/\firstE e.2.2.1 l=e.1+1):=Iff.rfl;have hf:@mlook Int Int (Ty.beq (.int .i64)) (Ty.zero (.int .i64)) e.2.2.1 s.2.2.2.2.1=firstE e.2.2.1 l:=hJ.first e.2.2.1
 unfold Z8q;simp only[n_eq,bS9,hJ.count];by_cases c1:cntE l 14 e.2.2.1=0
 ·rw[bif_t (by rw[c1]; rfl),hf,wrapI (by omega) (by omega)];by_cases c2:firstE e.2.2.1 l=e.1+1
  ·rw[tB_t (hR.2 ⟨c1,c2⟩),c2]; simp
  ·rw[tB_f (fun h=>c2 (hR.1 h).2),beq_eq_false_iff_ne.2 c2]
 ·rw[bif_f (by simp; omega),tB_f (fun h=>c1 (hR.1 h).1)]
theorem Ygf (caps:List Int) (l:List Ev) (e:Ev):ruleE caps l e ↔ ruleK e.2.1 caps l e:=by
 unfold ruleE;generalize hk:e.2.1=k;constructor
 ·rintro ⟨a1,a3,a5,a6,a7,a11,a12,a14,a15⟩;unfold ruleK;split
  ·exact a1 rfl
  ·exact a3 rfl
  ·exact a5 rfl
  ·exact a6 rfl
  ·exact a7 rfl
  ·exact a11 rfl
  ·exact a12 rfl
  ·exact a14 rfl
  ·exact a15 rfl
  ·trivial
 ·intro h;refine ⟨?_,?_,?_,?_,?_,?_,?_,?_,?_⟩ <;> (intro q; rw[q] at h; exact h)
noncomputable def tailT (e:Ev) (s:St):Option (Bool × St) :=
 bif eqI e.2.1 1 then (Z8b (e,s)).bind fun r=>some (r.1,r.2.1,r.2.2.1,r.2.2.2.1,r.2.2.2.2.1,r.2.2.2.2.2.1,r.2.2.2.2.2.2)
 else bif eqI e.2.1 3 then (Z8e (e,s)).bind fun r=>some (r.1,r.2.1,r.2.2.1,r.2.2.2.1,r.2.2.2.2.1,r.2.2.2.2.2.1,r.2.2.2.2.2.2)
 else bif eqI e.2.1 5 then (Z8g (e,s)).bind fun r=>some (r.1,r.2.1,r.2.2.1,r.2.2.2.1,r.2.2.2.2.1,r.2.2.2.2.2.1,r.2.2.2.2.2.2)
 else bif eqI e.2.1 6 then (Z8i (e,s)).bind fun r=>some (r.1,r.2.1,r.2.2.1,r.2.2.2.1,r.2.2.2.2.1,r.2.2.2.2.2.1,r.2.2.2.2.2.2)
 else bif eqI e.2.1 7 then (Z8k (e,s)).bind fun r=>some (r.1,r.2.1,r.2.2.1,r.2.2.2.1,r.2.2.2.2.1,r.2.2.2.2.2.1,r.2.2.2.2.2.2)
 else bif eqI e.2.1 11 then (Z8m (e,s)).bind fun r=>some (r.1,r.2.1,r.2.2.1,r.2.2.2.1,r.2.2.2.2.1,r.2.2.2.2.2.1,r.2.2.2.2.2.2)
 else bif eqI e.2.1 12 then (Z8o (e,s)).bind fun r=>some (r.1,r.2.1,r.2.2.1,r.2.2.2.1,r.2.2.2.2.1,r.2.2.2.2.2.1,r.2.2.2.2.2.2)
 else bif eqI e.2.1 14 then (Z8q (e,s)).bind fun r=>some (r.1,r.2.1,r.2.2.1,r.2.2.2.1,r.2.2.2.2.1,r.2.2.2.2.2.1,r.2.2.2.2.2.2)
 else bif eqI e.2.1 15 then (Z88 (e,s)).bind fun r=>some (r.1,r.2.1,r.2.2.1,r.2.2.2.1,r.2.2.2.2.1,r.2.2.2.2.2.1,r.2.2.2.2.2.2)
 else some (true,s.1,s.2.1,s.2.2.1,s.2.2.2.1,s.2.2.2.2.1,s.2.2.2.2.2)
theorem eqI_t {a b:Int} (h:a=b):eqI a b=true:=by unfold eqI; simpa using h
theorem eqI_f {a b:Int} (h:a ≠ b):eqI a b=false:=by unfold eqI; simpa using h
theorem Yjn {caps:List Int} {l:List Ev} {s:St} (hJ:JOK caps l s) (e:Ev) (hl:l.length < 30000) (hc:∀ n ∈ caps,-1 <= n/\n <= 3) (hs:shapeE l e) (ho:e.2.1 ≠ 1->0 <= e.2.2.1/\e.2.2.1 < objK caps e.2.1):tailT e s=some (tB (ruleE caps l e),s):=by
 obtain ⟨g0,g1,k0,k1,n0,s0,s1⟩:=hs;rw[propext (Ygf caps l e)]
 have hch:2 <= e.2.1/\e.2.1 <= 7->0 <= e.2.2.1/\e.2.2.1 < caps.length:=fun h=>by
  have:=ho (by omega);unfold objK at this;rw[if_pos h] at this; exact this
 unfold tailT;by_cases c1:e.2.1=1
 ·rw[bif_t (eqI_t c1),Ygj hJ,c1]; rfl
 rw[bif_f (eqI_f c1)];by_cases c3:e.2.1=3
 ·have:=hch (by omega);rw[bif_t (eqI_t c3),Ygk hJ e hl hc this.1 this.2,c3]; rfl
 rw[bif_f (eqI_f c3)];by_cases c5:e.2.1=5
 ·have:=hch (by omega);rw[bif_t (eqI_t c5),Ygl hJ e this.1 this.2,c5]; rfl
 rw[bif_f (eqI_f c5)];by_cases c6:e.2.1=6
 ·rw[bif_t (eqI_t c6),Ygm hJ e,c6]; rfl
 rw[bif_f (eqI_f c6)];by_cases c7:e.2.1=7
 ·have:=hch (by omega);rw[bif_t (eqI_t c7),Ygn hJ e this.1 this.2,c7]; rfl
 rw[bif_f (eqI_f c7)];by_cases c11:e.2.1=11
 ·rw[bif_t (eqI_t c11),Ygo hJ e hl,c11]; rfl
 rw[bif_f (eqI_f c11)];by_cases c12:e.2.1=12
 ·rw[bif_t (eqI_t c12),Ygp hJ e hl,c12]; rfl
 rw[bif_f (eqI_f c12)];by_cases c14:e.2.1=14
 ·rw[bif_t (eqI_t c14),Ygq hJ e g0 g1,c14]; rfl
 rw[bif_f (eqI_f c14)];by_cases c15:e.2.1=15
 ·rw[bif_t (eqI_t c15),Ygh hJ e,c15]; rfl
 rw[bif_f (eqI_f c15),tB_t];generalize e.2.1=k at *;unfold ruleK;split <;> first | contradiction | trivial
theorem Ykw {caps:List Int} {l:List Ev} {s:St} (hJ:JOK caps l s) (e:Ev) (hl:l.length < 30000) (hc:∀ n ∈ caps,-1 <= n/\n <= 3) (hcl:caps.length <= 4):Z84 (l,e,s)=some (tB (goodE caps l e),s):=by
 obtain ⟨s1,s2,s3,s4,s5,s6⟩:=s;have hcaps:s1=caps:=hJ.caps;subst hcaps;unfold Z84;simp only[zin_eq,bS9,Yd8];rw[wrapI (n:=(l.length:Int) - 1) (by omega) (by omega)];have hg:∀ b:Prop,(goodE s1 l e ↔ b)->tB (goodE s1 l e)=tB b:=fun b h=>by rw[propext h]
 by_cases a1:0 <= e.1/\e.1 <= 7
 case neg=>rw[dF9 a1,bif_t (by rfl),tB_f (fun h=>a1 ⟨h.1.1,h.1.2.1⟩)]
 rw[dT9 a1,bif_f (by rfl)];by_cases a2:0 <= e.2.1/\e.2.1 <= 17
 case neg=>rw[dF9 a2,bif_t (by rfl),tB_f (fun h=>a2 ⟨h.1.2.2.1,h.1.2.2.2.1⟩)]
 rw[dT9 a2,bif_f (by rfl)];by_cases a3:e.2.2.2.1 < 0
 ·rw[bif_t (dT9 a3),tB_f (fun h=>by have:=h.1.2.2.2.2.1; omega)]
 rw[bif_f (dF9 a3)];by_cases a4:(-1:Int) <= e.2.2.2.2/\e.2.2.2.2 <= (l.length:Int) - 1
 case neg=>
  show (bif !(decide ((-1:Int) <= e.2.2.2.2/\e.2.2.2.2 <= (l.length:Int) - 1)) then _ else _)=_;rw[dF9 a4,bif_t (by rfl),tB_f (fun h=>a4 ⟨h.1.2.2.2.2.2.1,by have:=h.1.2.2.2.2.2.2; omega⟩)]
 show (bif !(decide ((-1:Int) <= e.2.2.2.2/\e.2.2.2.2 <= (l.length:Int) - 1)) then _ else _)=_;rw[dT9 a4,bif_f (by rfl)];have hs:shapeE l e:=⟨a1.1,a1.2,a2.1,a2.2,by omega,a4.1,by omega⟩
 by_cases k0:e.2.1=0
 ·rw[bif_t (by simpa using k0),Y2c hJ e hs];have:goodE s1 l e ↔ startE l e:=by unfold goodE; rw[if_pos k0]; exact ⟨fun h=>h.2,fun h=>⟨hs,h⟩⟩
  rw[hg _ this]; rfl
 rw[bif_f (by simpa using k0)]
 have hG:goodE s1 l e ↔ (lastE e.1 l 0 ≠ 0/\(¬ numK e.2.1->e.2.2.2.1=0)/\(e.2.1 ≠ 1->0 <= e.2.2.1/\e.2.2.1 < objK s1 e.2.1)/\fromE l e/\ruleE s1 l e):=by
  unfold goodE; rw[if_neg k0]; exact ⟨fun h=>h.2,fun h=>⟨hs,h⟩⟩
 have hob:1 <= objK s1 e.2.1+1/\objK s1 e.2.1 <= 4:=by
  unfold objK;split
  ·omega
  ·split
   ·omega
   ·split <;> omega
 have core:(¬ numK e.2.1->e.2.2.2.1=0)->lastE e.1 l 0 ≠ 0->(e.2.1 ≠ 1->0 <= e.2.2.1/\e.2.2.1 < objK s1 e.2.1) ->
   (bif !(tB (fromE l e)) then some (false,s1,s2,s3,s4,s5,s6) else tailT e (s1,s2,s3,s4,s5,s6))=some (tB (goodE s1 l e),s1,s2,s3,s4,s5,s6):=by
  intro h1 h2 h3;rw[Yjn hJ e hl hc hs h3];by_cases hf:fromE l e
  ·rw[tB_t hf,bif_f (by rfl)];by_cases hr:ruleE s1 l e
   ·rw[tB_t hr,tB_t (hG.2 ⟨h2,h1,h3,hf,hr⟩)]
   ·rw[tB_f hr,tB_f (fun h=>hr (hG.1 h).2.2.2.2)]
  ·rw[tB_f hf,bif_t (by rfl),tB_f (fun h=>hf (hG.1 h).2.2.2.1)]
 have bg:=Y2a hJ e hs hl k0
 have hobj:∀ X Y:Option (Bool × St),(e.2.1 ≠ 1->0 <= e.2.2.1/\e.2.2.1 < objK s1 e.2.1->Y=some (tB (goodE s1 l e),s1,s2,s3,s4,s5,s6))->(e.2.1=1->X=some (tB (goodE s1 l e),s1,s2,s3,s4,s5,s6)) ->
   (bif e.2.1 != 1 then (bif !(decide ((0:Int) <= e.2.2.1/\e.2.2.1 <= objK s1 e.2.1 - 1)) then some (false,s1,s2,s3,s4,s5,s6) else Y) else X)=some (tB (goodE s1 l e),s1,s2,s3,s4,s5,s6):=by
  intro X Y hY hX;by_cases k1:e.2.1=1
  ·rw[bif_f (by simpa using k1)]; exact hX k1
  ·rw[bif_t (by simpa using k1)];by_cases o:(0:Int) <= e.2.2.1/\e.2.2.1 <= objK s1 e.2.1 - 1
   ·rw[dT9 o,bif_f (by rfl)];exact hY k1 ⟨o.1,by omega⟩
   ·rw[dF9 o,bif_t (by rfl),tB_f (fun h=>o (by have:=(hG.1 h).2.2.1 k1; omega))]
 have hw:IntKind.wrap .i64 (objK s1 e.2.1 - 1)=objK s1 e.2.1 - 1:=wrapI (by omega) (by omega);rw[hw,bif_t (inbL.2 ⟨a1.1,by omega⟩),Y9z hJ a1.1 a1.2,bg];simp only[bS9];by_cases k3:e.2.1=3
 ·have hn:¬ numK e.2.1->e.2.2.2.1=0:=fun h=>absurd (.inl k3) h
  rw[bif_t (by simpa using k3)];by_cases z:lastE e.1 l 0=0
  ·rw[bif_t (by rw[z]; rfl),tB_f (fun h=>(hG.1 h).1 z)]
  rw[bif_f (by simp; omega)];exact hobj _ _ (fun k1 o=>core hn z (fun _=>o)) (fun k1=>core hn z (fun h=>absurd k1 h))
 rw[bif_f (by simpa using k3),bif_t (inbL.2 ⟨a1.1,by omega⟩)];by_cases z:lastE e.1 l 0=0
 ·rw[bif_t (by rw[z]; rfl),tB_f (fun h=>(hG.1 h).1 z)]
 rw[bif_f (by simp; omega)];by_cases k5:e.2.1=5
 ·have hn:¬ numK e.2.1->e.2.2.2.1=0:=fun h=>absurd (.inr k5) h
  rw[bif_f (by simp[k5])];exact hobj _ _ (fun k1 o=>core hn z (fun _=>o)) (fun k1=>core hn z (fun h=>absurd k1 h))
 rw[bif_t (by simpa using k5)];by_cases n:e.2.2.2.1=0
 ·rw[bif_f (by simpa using n)];exact hobj _ _ (fun k1 o=>core (fun _=>n) z (fun _=>o)) (fun k1=>core (fun _=>n) z (fun h=>absurd k1 h))
 ·rw[bif_t (by simpa using n),tB_f (fun h=>n ((hG.1 h).2.1 (fun q=>q.elim k3 k5)))]
theorem Ykt (a b:Int):Ty.beq (.int .i64) a b=true ↔ a=b:=by
 show ((a == b)=true) ↔ _;simp
theorem beq_pp (a b:Int × Int):Ty.beq (.pair (.int .i64) (.int .i64)) a b=true ↔ a=b:=by
 show ((a.1 == b.1 && a.2 == b.2)=true) ↔ _;obtain ⟨a1,a2⟩:=a; obtain ⟨b1,b2⟩:=b;simp
theorem Yai (k o:Int) (u:Int) (k' o':Int) (l:List ((Int × Int) × Int)):lookC k' o' (@mput (Int × Int) Int (Ty.beq (.pair (.int .i64) (.int .i64))) (k,o) u l)=if k'=k/\o'=o then u else lookC k' o' l:=by
 refine (Ych (α:=Int) (κ:=Int × Int) (z:=0) beq_pp (k,o) u (k',o') l).trans ?_;show (if (k',o')=(k,o) then u else lookC k' o' l)=_;by_cases h:k'=k/\o'=o
 ·rw[if_pos h,if_pos (by rw[h.1,h.2])]
 ·rw[if_neg h,if_neg (fun e=>h ⟨congrArg Prod.fst e,congrArg Prod.snd e⟩)]
theorem Yae (o:Int) (u:Int) (o':Int) (l:List (Int × Int)):lookF o' (@mput Int Int (Ty.beq (.int .i64)) o u l)=if o'=o then u else lookF o' l:=by
 exact Ych (α:=Int) (κ:=Int) (z:=0) Ykt o u o' l
theorem Yb {caps:List Int} {l:List Ev} {s:St} (hJ:JOK caps l s) (e:Ev) (g0:0 <= e.1) (g1:e.1 <= 7) (hl:l.length < 30000) (hG:∀ x ∈ l,0 <= x.1)
  (b:Int) (hb:b=if e.2.1=0 then s.2.2.1+1 else s.2.2.1) (f:List (Int × Int))
  (hf:∀ o,lookF o f=if e.2.1=13/\e.2.2.1=o/\firstE o l=0 then e.1+1 else lookF o s.2.2.2.2.1) :
  JOK caps (l++[e]) (s.1,s.2.1.set (toN e.1) (l.length+1),b,mset (@mput (Int × Int) Int (Ty.beq (.pair (.int .i64) (.int .i64))) (e.2.1,e.2.2.1) (lookC e.2.1 e.2.2.1 s.2.2.2.1) s.2.2.2.1) (toN (natI (@mpos (Int × Int) Int (Ty.beq (.pair (.int .i64) (.int .i64))) (e.2.1,e.2.2.1) s.2.2.2.1))) (lookC e.2.1 e.2.2.1 s.2.2.2.1+1),f,s.2.2.2.2.2) where
 caps:=hJ.caps
 len:=by simp[hJ.len]
 last:=by
  intro g hg;rw[Y9v];show (s.2.1.set (toN e.1) (l.length+1)).getD g 0=_;by_cases h:e.1=g
  ·rw[if_pos h,show toN e.1=g by unfold toN; omega];simp[List.getD,hJ.len,hg]
  ·rw[if_neg h,<- hJ.last g hg];have:toN e.1 ≠ g:=by unfold toN; omega
   simp[List.getD,List.getElem?_set,this]
 begun:=by
  show b=_;rw[hb,Y4c,hJ.begun];split <;> simp
 count:=by
  intro k o;show lookC k o (mset _ (toN (natI _)) _)=_;rw[show mset (@mput (Int × Int) Int (Ty.beq (.pair (.int .i64) (.int .i64))) (e.2.1,e.2.2.1) (lookC e.2.1 e.2.2.1 s.2.2.2.1) s.2.2.2.1) (toN (natI (@mpos (Int × Int) Int (Ty.beq (.pair (.int .i64) (.int .i64))) (e.2.1,e.2.2.1) s.2.2.2.1))) (lookC e.2.1 e.2.2.1 s.2.2.2.1+1)=@mput (Int × Int) Int (Ty.beq (.pair (.int .i64) (.int .i64))) (e.2.1,e.2.2.1) (lookC e.2.1 e.2.2.1 s.2.2.2.1+1) s.2.2.2.1 from Yck _ _ _,Yai,Y45,hJ.count,hJ.count];by_cases h:k=e.2.1/\o=e.2.2.1
  ·rw[if_pos h,if_pos ⟨h.1.symm,h.2.symm⟩,h.1,h.2]; simp
  ·rw[if_neg h,if_neg (fun q=>h ⟨q.1.symm,q.2.symm⟩)]; simp
 first:=by
  intro o;show lookF o f=_;rw[hf,Y6y o e l hG,hJ.first];by_cases h:firstE o l=0
  ·rw[if_pos h];by_cases h2:e.2.1=13/\e.2.2.1=o
   ·rw[if_pos h2,if_pos ⟨h2.1,h2.2,h⟩]
   ·rw[if_neg h2,if_neg (fun q=>h2 ⟨q.1,q.2.1⟩),h]
  ·rw[if_neg h,if_neg (fun q=>h q.2.2)]
 orig:=hJ.orig
theorem may_eq {caps:List Int} {l:List Ev} {s:St} (hJ:JOK caps l s) (e:Ev) (hl:l.length < 30000) (hc:∀ n ∈ caps,-1 <= n/\n <= 3) (hcl:caps.length <= 4) (hG:∀ x ∈ l,0 <= x.1) :
  ∃ s',Z7v (l,e,s)=some (tB (goodE caps l e),s')/\(goodE caps l e->JOK caps (l++[e]) s'):=by
 unfold Z7v;simp only;rw[Ykw hJ e hl hc hcl];simp only[bS9];by_cases hg:goodE caps l e
 case neg=>rw[tB_f hg]; exact ⟨_,rfl,fun h=>absurd h hg⟩
 obtain ⟨g0,g1,k0,k1,n0,s0,s1⟩:=hg.1;have hlen:=hJ.len;have h1:inb e.1 8=true:=inbL.2 ⟨g0,by omega⟩;have h2:∀ (m:List ((Int × Int) × Int)) u,inb (natI (@mpos (Int × Int) Int (Ty.beq (.pair (.int .i64) (.int .i64))) (e.2.1,e.2.2.1) m)) (@mput (Int × Int) Int (Ty.beq (.pair (.int .i64) (.int .i64))) (e.2.1,e.2.2.1) u m).length=true:=fun m u=>Y8t (Ycd _ _)
 have h3:=hJ.count e.2.1 e.2.2.1;have h4:=Y48 l e.2.1 e.2.2.1;have h5:=hJ.begun;have h6:=Y4d l 0;have h7:=hJ.first e.2.2.1
 rw[tB_t hg];simp only[Bool.not_true,cond_false];rw[bif_t (h2 _ _),bif_t h1,wrapI (n:=(l.length:Int)+1) (by omega) (by omega),wrapI (n:=s.2.2.1+1) (by omega) (by omega),wrapI (n:=e.1+1) (by omega) (by omega)];have h8:IntKind.wrap .i64 (lookC e.2.1 e.2.2.1 s.2.2.2.1+1)=lookC e.2.1 e.2.2.1 s.2.2.2.1+1:=wrapI (by omega) (by omega)
 show ∃ s',(bif e.2.1 == 0 then some (true,s.1,s.2.1.set (toN e.1) (l.length+1),s.2.2.1+1,mset (@mput (Int × Int) Int (Ty.beq (.pair (.int .i64) (.int .i64))) (e.2.1,e.2.2.1) (lookC e.2.1 e.2.2.1 s.2.2.2.1) s.2.2.2.1) (toN (natI (@mpos (Int × Int) Int (Ty.beq (.pair (.int .i64) (.int .i64))) (e.2.1,e.2.2.1) s.2.2.2.1))) (IntKind.wrap .i64 (lookC e.2.1 e.2.2.1 s.2.2.2.1+1)),s.2.2.2.2.1,s.2.2.2.2.2)
  else bif e.2.1 == 13 then bif lookF e.2.2.1 s.2.2.2.2.1 == 0 then some (true,s.1,s.2.1.set (toN e.1) (l.length+1),s.2.2.1,mset (@mput (Int × Int) Int (Ty.beq (.pair (.int .i64) (.int .i64))) (e.2.1,e.2.2.1) (lookC e.2.1 e.2.2.1 s.2.2.2.1) s.2.2.2.1) (toN (natI (@mpos (Int × Int) Int (Ty.beq (.pair (.int .i64) (.int .i64))) (e.2.1,e.2.2.1) s.2.2.2.1))) (IntKind.wrap .i64 (lookC e.2.1 e.2.2.1 s.2.2.2.1+1)),@mput Int Int (Ty.beq (.int .i64)) e.2.2.1 (e.1+1) s.2.2.2.2.1,s.2.2.2.2.2)
   else some (true,s.1,s.2.1.set (toN e.1) (l.length+1),s.2.2.1,mset (@mput (Int × Int) Int (Ty.beq (.pair (.int .i64) (.int .i64))) (e.2.1,e.2.2.1) (lookC e.2.1 e.2.2.1 s.2.2.2.1) s.2.2.2.1) (toN (natI (@mpos (Int × Int) Int (Ty.beq (.pair (.int .i64) (.int .i64))) (e.2.1,e.2.2.1) s.2.2.2.1))) (IntKind.wrap .i64 (lookC e.2.1 e.2.2.1 s.2.2.2.1+1)),s.2.2.2.2.1,s.2.2.2.2.2)
  else some (true,s.1,s.2.1.set (toN e.1) (l.length+1),s.2.2.1,mset (@mput (Int × Int) Int (Ty.beq (.pair (.int .i64) (.int .i64))) (e.2.1,e.2.2.1) (lookC e.2.1 e.2.2.1 s.2.2.2.1) s.2.2.2.1) (toN (natI (@mpos (Int × Int) Int (Ty.beq (.pair (.int .i64) (.int .i64))) (e.2.1,e.2.2.1) s.2.2.2.1))) (IntKind.wrap .i64 (lookC e.2.1 e.2.2.1 s.2.2.2.1+1)),s.2.2.2.2.1,s.2.2.2.2.2))=some (true,s')/\_
 rw[h8];have app:=Yb hJ e g0 g1 hl hG;by_cases c0:e.2.1=0
 ·rw[bif_t (by simpa using c0)];exact ⟨_,rfl,fun _=>app _ (by rw[if_pos c0]) _ (fun o=>by rw[if_neg (fun q=>by omega)])⟩
 rw[bif_f (by simpa using c0)];by_cases c1:e.2.1=13
 ·rw[bif_t (by simpa using c1)];by_cases c2:lookF e.2.2.1 s.2.2.2.2.1=0
  ·rw[bif_t (by simpa using c2)];refine ⟨_,rfl,fun _=>app _ (by rw[if_neg c0]) _ (fun o=>?_)⟩;rw[Yae];by_cases c3:e.2.2.1=o
   ·rw[if_pos c3.symm,if_pos ⟨c1,c3,by rw[<- c3,<- h7]; exact c2⟩]
   ·rw[if_neg (fun h=>c3 h.symm),if_neg (fun h=>c3 h.2.1)]
  ·rw[bif_f (by simpa using c2)];refine ⟨_,rfl,fun _=>app _ (by rw[if_neg c0]) _ (fun o=>?_)⟩;rw[if_neg];rintro ⟨_,q1,q2⟩;rw[<- q1,<- h7] at q2;exact c2 q2
 ·rw[bif_f (by simpa using c1)];exact ⟨_,rfl,fun _=>app _ (by rw[if_neg c0]) _ (fun o=>by rw[if_neg (fun q=>c1 q.1)])⟩
def capsOK (caps:List Int):Prop:=caps.length <= 4/\∀ n ∈ caps,-1 <= n/\n <= 3
def Ya (caps:List Int) (l:List Ev) (r:Int):Prop :=
 (r=-1/\GoodL caps l) \/ ∃ i:Nat,∃ h:i < l.length,r=i/\¬ goodE caps (l.take i) l[i]/\GoodL caps (l.take i)
theorem Y9 {caps:List Int} {l:List Ev} (k:Nat):GoodL caps (l.take k) ↔ ∀ i (h:i < l.length),i < k->goodE caps (l.take i) l[i]:=by
 constructor
 ·intro h i hi hk;have:=h i (by simp; omega);rw[List.take_take,Nat.min_eq_left (by omega)] at this;simpa using this
 ·intro h i hi;have h':=hi;simp only[List.length_take] at h';rw[List.take_take,Nat.min_eq_left (by omega)];simpa using h i (by omega) (by omega)
theorem Y8 {caps:List Int} {l:List Ev}:GoodL caps l ↔ GoodL caps (l.take l.length):=by rw[List.take_length]
theorem Ya.uniq {caps:List Int} {l:List Ev} {r s:Int} (h:Ya caps l r) (h2:Ya caps l s):r=s:=by
 rcases h with ⟨rfl,a⟩ | ⟨i,hi,rfl,a,b⟩ <;> rcases h2 with ⟨rfl,c⟩ | ⟨j,hj,rfl,c,d⟩
 ·rfl
 ·exact absurd (a j hj) c
 ·exact absurd (c i hi) a
 ·rcases Nat.lt_trichotomy i j with h | h | h
  ·exact absurd ((Y9 j).1 d i hi h) a
  ·rw[h]
  ·exact absurd ((Y9 i).1 b j hj h) c
theorem Ya.take {caps:List Int} {l:List Ev} {r:Int} (h:Ya caps l r) (k:Nat):Ya caps (l.take k) (if 0 <= r/\r < k then r else -1):=by
 rcases h with ⟨rfl,a⟩ | ⟨i,hi,rfl,a,b⟩
 ·rw[if_neg (by omega)];exact .inl ⟨rfl,(Y9 k).2 fun i hi _=>a i hi⟩
 ·by_cases hk:i < k
  ·rw[if_pos (by omega)];refine .inr ⟨i,by simp; omega,rfl,?_,?_⟩
   ·rw[List.take_take,Nat.min_eq_left (by omega)]; simpa using a
   ·rw[List.take_take,Nat.min_eq_left (by omega)]; exact b
  ·rw[if_neg (by omega)];exact .inl ⟨rfl,(Y9 k).2 fun j hj hjk=>(Y9 i).1 b j hj (by omega)⟩
theorem Ya.range {caps:List Int} {l:List Ev} {r:Int} (h:Ya caps l r):-1 <= r/\(r < l.length):=by
 rcases h with ⟨rfl,a⟩ | ⟨i,hi,rfl,a,b⟩ <;> omega
theorem getAtE {l:List Ev} {i:Nat} (h:i < l.length):getAt ((0:Int),((0:Int),((0:Int),((0:Int),(0:Int))))) l (toN (i:Int))=l[i]:=getAtL _ h
theorem cutE (l:List Ev) (i:Nat):cut l (toN 0) (toN (i:Int) - toN 0)=l.take i:=rfl
theorem jok0 (caps:List Int):JOK caps [] (caps,[0,0,0,0,0,0,0,0],0,[],[],orgM) where
 caps:=rfl
 len:=rfl
 last:=by intro g hg; show [0,0,0,0,0,0,0,0].getD g 0=0; rcases (by omega:g=0 \/ g=1 \/ g=2 \/ g=3 \/ g=4 \/ g=5 \/ g=6 \/ g=7) with rfl | rfl | rfl | rfl | rfl | rfl | rfl | rfl <;> rfl
 begun:=rfl
 count:=fun k o=>rfl
 first:=fun o=>rfl
 orig:=rfl
theorem Ykr {caps:List Int} {l:List Ev} (hl:l.length < 30000) (hc:capsOK caps):∀ x:Nat × St,x.1 <= l.length/\JOK caps (l.take x.1) x.2/\GoodL caps (l.take x.1) ->
  ∃ y,loop Zbd (l,l,l.length,(x.1:Int),x.2)=some y/\((∃ i,y=.inl (i,0)/\0 <= i/\Ya caps l i) \/ y=.inr ()/\GoodL caps l):=by
 have:∀ d (k:Nat) (s:St),l.length - k=d->k <= l.length->JOK caps (l.take k) s->GoodL caps (l.take k) ->
   ∃ y,loop Zbd (l,l,l.length,(k:Int),s)=some y/\((∃ i,y=.inl (i,0)/\0 <= i/\Ya caps l i) \/ y=.inr ()/\GoodL caps l):=by
  intro d;induction d with
  | zero =>
   intro k s h1 h2 h3 h4;obtain rfl:k=l.length:=by omega
   refine ⟨.inr (),?_,.inr ⟨rfl,Y8.2 h4⟩⟩;rw[Yaq];unfold Zbd;simp only;rw[bif_f (dF9 (by omega))]
  | succ d ih =>
   intro k s h1 h2 h3 h4;have hk:k < l.length:=by omega
   have hG:∀ x ∈ l.take k,0 <= x.1:=Y89 h4;obtain ⟨s',e1,e2⟩:=may_eq h3 l[k] (by simp; omega) hc.2 hc.1 hG;rw[Yaq]
   have step:Zbd (l,l,l.length,(k:Int),s)=bif tB (goodE caps (l.take k) l[k]) then some (.inl (l,l,(l.length:Int),((k+1:Nat):Int),s')) else some (.inr (.inl ((k:Int),0))):=by
    unfold Zbd;simp only;rw[bif_t (dT9 (by omega)),bif_t (Y8t hk),bif_t (sub3L.2 ⟨by omega,by omega,by omega⟩),getAtE hk,cutE];rw[show (l.take k,l[k],s.1,s.2.1,s.2.2.1,s.2.2.2.1,s.2.2.2.2.1,s.2.2.2.2.2)=(l.take k,l[k],s) from rfl,e1];simp only[bS9];by_cases hg:goodE caps (l.take k) l[k]
    ·rw[tB_t hg,wrapI (by omega) (by omega)]; rfl
    ·rw[tB_f hg]; rfl
   rw[step];by_cases hg:goodE caps (l.take k) l[k]
   ·rw[bif_t (tB_t hg)];refine ih (k+1) s' (by omega) (by omega) ?_ ?_
    ·rw[<- List.take_append_getElem hk]; exact e2 hg
    ·refine (Y9 (k+1)).2 fun i hi hik=>?_
     by_cases h:i=k
     ·subst h; exact hg
     ·exact (Y9 k).1 h4 i hi (by omega)
   ·rw[bif_f (tB_f hg)];exact ⟨_,rfl,.inl ⟨k,rfl,by omega,.inr ⟨k,hk,rfl,hg,h4⟩⟩⟩
 exact fun x h=>this _ x.1 x.2 rfl h.1 h.2.1 h.2.2
theorem Y8q (n:Int):Z7m n=some (!decide (-1 <= n/\n <= 3)):=by
 unfold Z7m;rw[zin_eq]; rfl
theorem Y38 (caps:List Int) (h:caps.length < 30000):Z6t caps=some (tB (¬ ∀ n ∈ caps,-1 <= n/\n <= 3)):=by
 have hf:=Yar (f:=Zb9) caps (fun n=>!decide (-1 <= n/\n <= 3)) (fun k=>(caps,(caps.length:Int),(k:Int))) (fun k=>.inl (k:Int)) (.inr ()) (by
   intro k hk;unfold Zb9;simp only;rw[bif_t (dT9 (by omega)),bif_t (Y8t hk),Yk0,getAtL _ hk,Y8q,wrapI (by omega) (by omega)];simp only[bS9];cases hb:!decide (-1 <= caps[k]/\caps[k] <= 3)
   ·rfl
   ·rfl) (by
   unfold Zb9;simp only;rw[bif_f (dF9 (by omega))])
 unfold Z6t Z7h;rw[show loop Zb9 (caps,((caps.length:Nat):Int),0)=_ from hf];simp only[bS9];cases hfi:caps.findIdx? (fun n=>!decide (-1 <= n/\n <= 3)) with
 | none =>
  have:=List.findIdx?_eq_none_iff.1 hfi;simp only[bS9];rw[tB_f (fun h=>h fun n hn=>by simpa using this n hn)]; rfl
 | some i =>
  obtain ⟨hi,hp,_⟩:=List.findIdx?_eq_some_iff_getElem.1 hfi;simp only[bS9];rw[tB_t (fun h=>by have:=h _ (gm9 hi); simp at hp; omega),dT9 (by omega)]
theorem Ykx (caps:List Int) (l:List Ev) (hn:caps.length < 30000) (hl:l.length < 30000) :
  ∃ r e,Z7l (caps,l)=some (r,e)/\(capsOK caps/\e=0/\Ya caps l r \/ ¬ capsOK caps/\e=1/\r=0):=by
 unfold Z7l;simp only;by_cases h4:caps.length <= 4
 case neg =>
  rw[bif_t (dT9 (by omega))];exact ⟨_,_,rfl,.inr ⟨fun h=>h4 h.1,rfl,rfl⟩⟩
 rw[bif_f (dF9 (by omega)),Y38 caps hn];simp only[bS9];by_cases hc:∀ n ∈ caps,-1 <= n/\n <= 3
 case neg =>
  rw[tB_t hc];exact ⟨_,_,rfl,.inr ⟨fun h=>hc h.2,rfl,rfl⟩⟩
 rw[tB_f (fun h=>h hc)];simp only[cond_false,Ydq,bS9];have hr:∀ s:St,Z86 s=some s:=fun s=>rfl
 rw[show ((caps,[0,0,0,0,0,0,0,0],0,([]:List ((Int × Int) × Int)),([]:List (Int × Int)),orgM))=(show St from (caps,[0,0,0,0,0,0,0,0],0,[],[],orgM)) from rfl,hr];simp only[bS9];obtain ⟨y,e1,e2⟩:=Ykr hl ⟨h4,hc⟩ (0,(caps,[0,0,0,0,0,0,0,0],0,[],[],orgM)) ⟨Nat.zero_le _,jok0 caps,fun i h=>by simp at h⟩;have e1:loop Zbd (l,l,(l.length:Int),0,caps,[0,0,0,0,0,0,0,0],0,[],[],orgM)=some y:=e1;rw[e1];rcases e2 with ⟨i,rfl,h0,h1⟩ | ⟨rfl,h1⟩
 ·exact ⟨_,_,rfl,.inl ⟨⟨h4,hc⟩,rfl,h1⟩⟩
 ·exact ⟨_,_,rfl,.inl ⟨⟨h4,hc⟩,rfl,.inl ⟨rfl,h1⟩⟩⟩
theorem Y84 {l:List Ev} {i:Nat} (h:i <= l.length) {s:Int} (h0:0 <= s) (h1:s < i):getE l s=getE (l.take i) s:=by
 unfold getE;have:s.toNat < i:=by omega
 have h2:s.toNat < l.length:=by omega
 simp[List.getD,List.getElem?_take,this]
open Go.Proofs
open Go.Proofs
set_option maxHeartbeats 1000000
def isN (k o n:Int) (e:Ev):Bool:=e.2.1 == k && (e.2.2.1 == o && e.2.2.2.1 == n)
def numR (l:List Ev) (k o n:Int):Int:=match l.find? (isN k o n) with
 | some e=>e.2.2.2.2
 | none=>-1
theorem Y9g {k o n:Int} {e:Ev}:isN k o n e=true ↔ e.2.1=k/\e.2.2.1=o/\e.2.2.2.1=n:=by
 unfold isN; simp
def isE (caps:List Int) (l:List Ev) (k i:Nat):Prop :=
 (k:Int)+1=lastE (getE l i).1 (l.take i) 0 \/
 (getE l i).2.1=0/\(k:Int)=(getE l i).2.2.2.2 \/
 (getE l i).2.1=5/\(k:Int)=numR l 3 (getE l i).2.2.1 (getE l i).2.2.2.1 \/
 (getE l i).2.1=3/\capO caps (getE l i).2.2.1 <= (getE l i).2.2.2.1/\(k:Int)=numR l 5 (getE l i).2.2.1 ((getE l i).2.2.2.1 - capO caps (getE l i).2.2.1) \/
 (getE l i).2.1=6/\(getE l k).2.1=7/\(getE l k).2.2.1=(getE l i).2.2.1 \/
 (getE l i).2.1=11/\(getE l k).2.1=12/\(getE l k).2.2.1=(getE l i).2.2.1 \/
 (getE l i).2.1=15/\(getE l k).2.1=14/\(getE l k).2.2.1=(getE l i).2.2.1
theorem Y82 {l:List Ev} {i:Nat} (h:i < l.length):getE l (i:Int)=l[i]:=by unfold getE; simp[List.getD,h]
theorem Y8b {caps:List Int} {l:List Ev} (hG:GoodL caps l) {i:Nat} (h:i < l.length):goodE caps (l.take i) (getE l i):=by
 rw[Y82 h]; exact hG i h
noncomputable def Y5w (caps:List Int) (l:List Ev) (i:Nat):List Int:=((List.range i).filter fun k=>tB (isE caps l k i)).map fun k:Nat=>(k:Int)
theorem Y5z {caps:List Int} {l:List Ev} {i:Nat} {x:Int}:x ∈ Y5w caps l i ↔ ∃ k:Nat,x=k/\k < i/\isE caps l k i:=by
 unfold Y5w;rw[List.mem_map];constructor
 ·rintro ⟨k,hk,rfl⟩;have:=List.mem_filter.1 hk;exact ⟨k,rfl,List.mem_range.1 this.1,Yjk.1 this.2⟩
 ·rintro ⟨k,rfl,h1,h2⟩;exact ⟨k,List.mem_filter.2 ⟨List.mem_range.2 h1,tB_t h2⟩,rfl⟩
theorem Y5y (caps:List Int) (l:List Ev) (i:Nat):(Y5w caps l i).Pairwise (· < ·):=by
 unfold Y5w;rw[List.pairwise_map];exact (List.pairwise_lt_range.filter _).imp (fun h=>by omega)
set_option maxHeartbeats 1000000
theorem Y2i (a b:Int × (Int × Bool)):Ty.beq y9 a b=true ↔ a=b:=by
 show ((a.1 == b.1 && (a.2.1 == b.2.1 && a.2.2 == b.2.2))=true) ↔ _;obtain ⟨a1,a2,a3⟩:=a; obtain ⟨b1,b2,b3⟩:=b;simp
def lookB (o n:Int) (b:Bool) (l:List ((Int × (Int × Bool)) × Int)):Int:=mlook (Ty.beq y9) (Ty.zero (.int .i64)) (o,n,b) l
def lookG (o:Int) (l:List (Int × List Int)):List Int:=@mlook Int (List Int) (Ty.beq (.int .i64)) [] o l
theorem Yad (o n:Int) (b:Bool) (u:Int) (o' n':Int) (b':Bool) (l:List ((Int × (Int × Bool)) × Int)) :
  lookB o' n' b' (@mput (Int × (Int × Bool)) Int (Ty.beq y9) (o,n,b) u l)=if o'=o/\n'=n/\b'=b then u else lookB o' n' b' l:=by
 refine (Ych (α:=Int) (κ:=Int × (Int × Bool)) (z:=0) Y2i (o,n,b) u (o',n',b') l).trans ?_;show (if (o',n',b')=(o,n,b) then u else lookB o' n' b' l)=_;by_cases h:o'=o/\n'=n/\b'=b
 ·rw[if_pos h,if_pos (by rw[h.1,h.2.1,h.2.2])]
 ·rw[if_neg h,if_neg (fun e=>h ⟨congrArg Prod.fst e,congrArg (·.2.1) e,congrArg (·.2.2) e⟩)]
theorem Yaf (o:Int) (u:List Int) (o':Int) (l:List (Int × List Int)):lookG o' (@mput Int (List Int) (Ty.beq (.int .i64)) o u l)=if o'=o then u else lookG o' l:=by
 exact Ych (α:=List Int) (κ:=Int) (z:=[]) Ykt o u o' l
theorem Ycl {κ α:Type} {eq:κ->κ->Bool} {z:α} (x:κ):∀ (l:List (κ × α)),mhas eq x l=true->mset l (mpos eq x l) (mlook eq z x l)=l
 | [],h=>by cases h
 | p :: l,h=>by
  unfold mpos mlook;cases hb:eq x p.1 with
  | true=>rw[cond_true,cond_true]; rfl
  | false =>
   rw[cond_false,cond_false];unfold mhas at h;rw[hb,cond_false] at h;show p :: mset l _ _=_;rw[Ycl x l h]
theorem Yah {κ α:Type} {eq:κ->κ->Bool} {z:α} (x:κ):∀ (l:List (κ × α)),mhas eq x l=false->mlook eq z x l=z
 | [],h=>rfl
 | p :: l,h=>by
  unfold mhas at h;unfold mlook;cases hb:eq x p.1 with
  | true=>rw[hb,cond_true] at h; cases h
  | false =>
   rw[hb,cond_false] at h;rw[cond_false];exact Yah x l h
theorem Y49 {l:List Ev} {a b:Nat} (h:a <= b) (k o:Int):cntE (l.take a) k o <= cntE (l.take b) k o:=by
 unfold cntE
 have:(l.take a).Sublist (l.take b):=by
  rw[show l.take a=(l.take b).take a by rw[List.take_take,Nat.min_eq_left h]];exact List.take_sublist _ _
 exact (this.filter _).length_le
theorem Y46 {l:List Ev} {j i:Nat} (hj:j < i) (h:j < l.length):cntE (l.take j) l[j].2.1 l[j].2.2.1 < cntE (l.take i) l[j].2.1 l[j].2.2.1:=by
 have:=Y49 (l:=l) (show j+1 <= i from hj) l[j].2.1 l[j].2.2.1;rw[<- List.take_append_getElem h,Y45,if_pos ⟨rfl,rfl⟩] at this;omega
theorem Y8c {caps:List Int} {l:List Ev} (hG:GoodL caps l) {i:Nat} (h:i < l.length) (hk:l[i].2.1=3 \/ l[i].2.1=5):l[i].2.2.2.1=cntE (l.take i) l[i].2.1 l[i].2.2.1/\0 <= l[i].2.2.2.2/\l[i].2.2.2.2 < i:=by
 have hg:=hG i h;have h1:=hg.1;have h2:=hg.2;rw[if_neg (by omega)] at h2;obtain ⟨_,_,_,hf,hr⟩:=h2;have hlen:(l.take i).length=i:=by simp; omega
 have hb:begK l[i].2.1:=by unfold begK; omega
 unfold fromE at hf;rw[if_pos hb] at hf;refine ⟨?_,hf.1,by have:=h1.2.2.2.2.2.2; omega⟩;rcases hk with hk | hk
 ·rw[hk]; exact (hr.2.1 hk).2.2.1
 ·rw[hk]; exact (hr.2.2.1 hk).2.1
theorem isN_in {caps:List Int} {l:List Ev} (hG:GoodL caps l) {i j:Nat} (hj:j < i) (h:i < l.length) (hk:l[i].2.1=3 \/ l[i].2.1=5):isN l[i].2.1 l[i].2.2.1 l[i].2.2.2.1 (l[j]'(by omega))=false:=by
 cases hb:isN l[i].2.1 l[i].2.2.1 l[i].2.2.2.1 (l[j]'(by omega)) with
 | false=>rfl
 | true =>
  obtain ⟨e1,e2,e3⟩:=Y9g.1 hb;have h1:=(Y8c hG h hk).1;have h2:=(Y8c hG (show j < l.length by omega) (by rw[e1]; exact hk)).1;have h3:=Y46 hj (show j < l.length by omega);rw[e1,e2] at h2 h3;omega
theorem Yd3 (l:List Ev) (e:Ev) (k o n:Int):numR (l++[e]) k o n=match l.find? (isN k o n) with | some x=>x.2.2.2.2 | none=>if isN k o n e=true then e.2.2.2.2 else -1:=by
 unfold numR;rw[List.find?_append];cases l.find? (isN k o n) with
 | some x=>rfl
 | none =>
  rw[Option.none_or];cases hb:isN k o n e with
  | true=>rw[List.find?_cons_of_pos hb,if_pos rfl]
  | false=>rw[List.find?_cons_of_neg (by rw[hb]; decide),if_neg (by decide)]; rfl
theorem Yd5 {l:List Ev} {k o n:Int} (h:l.find? (isN k o n)=none):numR l k o n=-1:=by unfold numR; rw[h]
def bK (b:Bool):Int:=if b then 5 else 3
def BOK2 (l:List Ev) (B:List ((Int × (Int × Bool)) × Int)):Prop:=∀ o n b,lookB o n b B=numR l (bK b) o n+1
theorem bStep {caps:List Int} {l:List Ev} (hG:GoodL caps l) {i:Nat} (h:i < l.length) {B:List ((Int × (Int × Bool)) × Int)} (hB:BOK2 (l.take i) B) (b:Bool) (hk:l[i].2.1=bK b) :
  BOK2 (l.take (i+1)) (@mput (Int × (Int × Bool)) Int (Ty.beq y9) (l[i].2.2.1,l[i].2.2.2.1,b) (l[i].2.2.2.2+1) B):=by
 intro o n b';have hk2:l[i].2.1=3 \/ l[i].2.1=5:=by rw[hk]; cases b <;> simp[bK]
 rw[Yad,<- List.take_append_getElem h,Yd3,hB o n b'];by_cases hc:o=l[i].2.2.1/\n=l[i].2.2.2.1/\b'=b
 ·obtain ⟨rfl,rfl,rfl⟩:=hc;rw[if_pos ⟨rfl,rfl,rfl⟩]
  have hn:(l.take i).find? (isN (bK b') l[i].2.2.1 l[i].2.2.2.1)=none:=by
   rw[List.find?_eq_none];intro x hx;obtain ⟨j,hj,rfl⟩:=List.mem_iff_getElem.1 hx;have hji:j < i:=by simp at hj; omega
   have:=isN_in hG hji h hk2;rw[hk] at this;rw[List.getElem_take,this]; decide
  rw[hn];simp only;rw[if_pos (Y9g.2 ⟨hk,rfl,rfl⟩)]
 ·rw[if_neg hc];unfold numR;cases (l.take i).find? (isN (bK b') o n) with
  | some x=>rfl
  | none =>
   simp only
   rw[if_neg (fun q=>hc (by
    obtain ⟨q1,q2,q3⟩:=Y9g.1 q;refine ⟨q2.symm,q3.symm,?_⟩;rw[hk] at q1;cases b <;> cases b' <;> simp[bK] at q1 ⊢))]
theorem bSkip {l:List Ev} {i:Nat} (h:i < l.length) {B:List ((Int × (Int × Bool)) × Int)} (hB:BOK2 (l.take i) B) (h3:l[i].2.1 ≠ 3) (h5:l[i].2.1 ≠ 5):BOK2 (l.take (i+1)) B:=by
 intro o n b;rw[<- List.take_append_getElem h,Yd3,hB o n b];unfold numR;cases (l.take i).find? (isN (bK b) o n) with
 | some x=>rfl
 | none =>
  simp only
  rw[if_neg (fun q=>by
   have:=(Y9g.1 q).1;cases b
   ·exact h3 this
   ·exact h5 this)]
theorem Ycn {caps:List Int} {l:List Ev} (hG:GoodL caps l) (hl:l.length < 30000):∃ B,Z1c (caps,l)=some (caps,B,[],[],[],[])/\BOK2 l B:=by
 have key:=Yau (f:=Z9l) (fun x=>∃ (k:Nat) (B:List ((Int × (Int × Bool)) × Int)),x=(l,(l.length:Int),(k:Int),caps,B,[],[],[],[])/\k <= l.length/\BOK2 (l.take k) B)
  (fun y=>∃ B,y=(caps,B,[],[],[],[])/\BOK2 l B) (fun x=>(x.2.1 - x.2.2.1).toNat) (by
   rintro x ⟨k,B,rfl,hk,hB⟩;by_cases h:k < l.length
   ·left
    have step:∀ B',BOK2 (l.take (k+1)) B'->Z9l (l,(l.length:Int),(k:Int),caps,B,[],[],[],[])=some (.inl (l,(l.length:Int),((k+1:Nat):Int),caps,B',[],[],[],[])) ->
      ∃ x',Z9l (l,(l.length:Int),(k:Int),caps,B,[],[],[],[])=some (.inl x')/\(∃ (k:Nat) (B:List ((Int × (Int × Bool)) × Int)),x'=(l,(l.length:Int),(k:Int),caps,B,[],[],[],[])/\k <= l.length/\BOK2 (l.take k) B)/\(x'.2.1 - x'.2.2.1).toNat < (((l.length:Nat):Int) - (k:Int)).toNat :=
     fun B' hB' e=>⟨_,e,⟨k+1,B',rfl,h,hB'⟩,by simp only; omega⟩
    by_cases e3:l[k].2.1=3
    ·have hn:=Y8c hG h (.inl e3);refine step _ (bStep hG h hB false e3) ?_;unfold Z9l;simp only;rw[bif_t (dT9 (by omega)),bif_t (Y8t h),getAtE h,wrapI (n:=(k:Int)+1) (by omega) (by omega),wrapI (n:=l[k].2.2.2.2+1) (by omega) (by omega),bif_t (by simpa using e3),show (l[k].2.1 == 5)=false by rw[e3]; decide];rfl
    by_cases e5:l[k].2.1=5
    ·have hn:=Y8c hG h (.inr e5);refine step _ (bStep hG h hB true e5) ?_;unfold Z9l;simp only;rw[bif_t (dT9 (by omega)),bif_t (Y8t h),getAtE h,wrapI (n:=(k:Int)+1) (by omega) (by omega),wrapI (n:=l[k].2.2.2.2+1) (by omega) (by omega),bif_f (by simpa using e3),show (l[k].2.1 == 5)=true by rw[e5]; decide,cond_true];rfl
    ·refine step _ (bSkip h hB e3 e5) ?_;unfold Z9l;simp only;rw[bif_t (dT9 (by omega)),bif_t (Y8t h),getAtE h,wrapI (n:=(k:Int)+1) (by omega) (by omega),bif_f (by simpa using e3),bif_f (by simpa using e5)];rfl
   ·obtain rfl:k=l.length:=by omega
    refine .inr ⟨_,?_,B,rfl,by rwa [List.take_length] at hB⟩;unfold Z9l;simp only;rw[bif_f (dF9 (by omega))])
 obtain ⟨y,e1,B,rfl,hB⟩:=key (l,(l.length:Int),((0:Nat):Int),caps,[],[],[],[],[]) ⟨0,[],rfl,Nat.zero_le _,fun o n b=>by
  show (0:Int)=numR (l.take 0) _ _ _+1;rfl⟩
 refine ⟨B,?_,hB⟩;unfold Z1c;simp only;rw[show loop Z9l (l,((l.length:Nat):Int),0,caps,[],[],[],[],[])=_ from e1];rfl
set_option maxHeartbeats 1000000
abbrev MB:=List ((Int × (Int × Bool)) × Int)
abbrev MI:=List (Int × Int)
abbrev MG:=List (Int × List Int)
def mineOf (at1:List Int) (i:Nat):List Int:=(at1.filter fun v:Int=>decide (0 < v/\v <= (i:Int))).map fun v:Int=>v - 1
theorem Ybw {at1:List Int} {i:Nat} {x:Int}:x ∈ mineOf at1 i ↔ ∃ j:Nat,x=j/\j < i/\(j:Int)+1 ∈ at1:=by
 unfold mineOf;rw[List.mem_map];constructor
 ·rintro ⟨v,hv,rfl⟩;have h:=List.mem_filter.1 hv;have h2:=of_decide_eq_true h.2;refine ⟨(v - 1).toNat,by omega,by omega,?_⟩;rw[show (((v - 1).toNat:Nat):Int)+1=v by omega];exact h.1
 ·rintro ⟨j,rfl,h1,h2⟩;exact ⟨(j:Int)+1,List.mem_filter.2 ⟨h2,dT9 (by omega)⟩,by omega⟩
theorem Ybv (at1:List Int) (i:Nat):(mineOf at1 i).length <= at1.length:=by
 unfold mineOf; rw[List.length_map]; exact List.length_filter_le _ _
theorem Yda (at1:List Int) (e:Ev) (i:Nat) (caps:List Int) (B:MB) (cl en:MI) (gv:MG) (la:MI) (hi:i < 30000) (ha:at1.length <= 90000) :
  loop Z9j ((at1.length:Int),0,e,(i:Int),caps,B,cl,en,gv,la,at1,[])=some (.inr (e,(i:Int),caps,B,cl,en,gv,la,mineOf at1 i)):=by
 have key:=Yap (f:=Z9j) at1.length (fun j=>((at1.length:Int),(j:Int),e,(i:Int),caps,B,cl,en,gv,la,at1,mineOf (at1.take j) i)) (.inr (e,(i:Int),caps,B,cl,en,gv,la,mineOf at1 i)) (by
   intro j hj;have hl:=Ybv (at1.take j) i;have hl2:(at1.take j).length <= 90000:=by simp; omega
   have ht:∀ v,mineOf (at1.take j++[v]) i=mineOf (at1.take j) i++if 0 < v/\v <= (i:Int) then [v - 1] else []:=by
    intro v;unfold mineOf;rw[List.filter_append,List.map_append];congr 1;by_cases hv:0 < v/\v <= (i:Int)
    ·rw[if_pos hv,List.filter_cons_of_pos (by exact dT9 hv)]; rfl
    ·rw[if_neg hv,List.filter_cons_of_neg (by simpa using hv)]; rfl
   unfold Z9j;simp only;rw[bif_t (dT9 (by omega)),bif_t (Y8t hj),Yk0,getAtL _ hj,wrapI (n:=(j:Int)+1) (by omega) (by omega),<- List.take_append_getElem hj,ht];generalize at1[j]=v;by_cases h1:v > 0
   ·rw[bif_t (dT9 h1)];by_cases h2:v <= (i:Int)
    ·rw[bif_t (dT9 h2),if_pos ⟨h1,h2⟩];unfold Z10;simp only;rw[bif_t (Y74.2 (by simp only[List.length_cons,List.length_nil]; omega)),wrapI (by omega) (by omega)];rfl
    ·rw[bif_f (dF9 h2),if_neg (fun q=>h2 q.2),an9]; rfl
   ·rw[bif_f (dF9 h1),if_neg (fun q=>h1 q.1),an9]; rfl) (by
   unfold Z9j;simp only;rw[bif_f (dF9 (by omega)),List.take_length]) 0 (Nat.zero_le _)
 exact key
def atOf (caps:List Int) (e:Ev) (B:MB) (cl en:MI) (gv:MG) (la:MI):List Int :=
 lookF e.1 la :: (if e.2.1=0 then [e.2.2.2.2+1] else if e.2.1=5 then [lookB e.2.2.1 e.2.2.2.1 false B] else if e.2.1=3 then [lookB e.2.2.1 (e.2.2.2.1 - capO caps e.2.2.1) true B]
  else if e.2.1=6 then [lookF e.2.2.1 cl] else if e.2.1=11 then lookG e.2.2.1 gv else if e.2.1=15 then [lookF e.2.2.1 en] else [])
theorem of1_eq (caps:List Int) (e:Ev) (i:Nat) (B:MB) (cl en:MI) (gv:MG) (la:MI) (hi:i < 30000) (hs:-1 <= e.2.2.2.2/\e.2.2.2.2 < 30000) (hg:(lookG e.2.2.1 gv).length <= 30000)
  (h3:e.2.1=3->0 <= e.2.2.1/\e.2.2.1 < caps.length/\-1 <= capO caps e.2.2.1/\capO caps e.2.2.1 <= 3/\0 <= e.2.2.2.1/\e.2.2.2.1 < 30000) :
  Z19 (e,(i:Int),caps,B,cl,en,gv,la,[])=some (0,e,(i:Int),caps,B,cl,en,gv,la,mineOf (atOf caps e B cl en gv la) i):=by
 have hL:=fun at1 ha=>Yda at1 e i caps B cl en gv la hi ha
 have hlf:@mlook Int Int (Ty.beq (.int .i64)) (Ty.zero (.int .i64)) e.1 la=lookF e.1 la:=rfl;unfold Z19 atOf;simp only[hlf];by_cases e0:e.2.1=0
 ·rw[bif_t (by simpa using e0),wrapI (by omega) (by omega),if_pos e0,hL _ (by simp)]; rfl
 rw[bif_f (by simpa using e0),if_neg e0];by_cases e5:e.2.1=5
 ·rw[bif_t (by simpa using e5),if_pos e5];unfold Z14;simp only;rw[bif_t (by simpa using e5)];simp only[bS9];rw[hL _ (by simp)]; rfl
 rw[bif_f (by simpa using e5),if_neg e5];by_cases e3:e.2.1=3
 ·obtain ⟨q1,q2,q3,q4,q5,q6⟩:=h3 e3;rw[bif_t (by simpa using e3),if_pos e3];unfold Z14;simp only;rw[bif_f (by simpa using e5),tB_inb,tB_t ⟨q1,q2⟩,cond_true,Y36 caps _ q1,wrapI (by omega) (by omega)];simp only[bS9];rw[hL _ (by simp)]; rfl
 rw[bif_f (by simpa using e3),if_neg e3];by_cases e6:e.2.1=6
 ·rw[bif_t (by simpa using e6),if_pos e6,hL _ (by simp)]; rfl
 rw[bif_f (by simpa using e6),if_neg e6];by_cases e11:e.2.1=11
 ·rw[bif_t (by simpa using e11),if_pos e11];cases hh:@mhas Int (List Int) (Ty.beq (.int .i64)) e.2.2.1 gv with
  | true =>
   have hg':(@mlook Int (List Int) (Ty.beq (.int .i64)) [] e.2.2.1 gv).length <= 30000:=hg;rw[cond_true,bif_t (Y74.2 (by simp only[List.length_cons,List.length_nil]; omega)),Ycl _ _ hh,hL _ (by simp only[ln9,List.length_cons,List.length_nil]; omega)];rfl
  | false =>
   rw[cond_false,show lookG e.2.2.1 gv=[] from Yah _ _ hh,hL _ (by simp)];rfl
 rw[bif_f (by simpa using e11),if_neg e11];by_cases e15:e.2.1=15
 ·rw[bif_t (by simpa using e15),if_pos e15,hL _ (by simp)]; rfl
 rw[bif_f (by simpa using e15),if_neg e15,hL _ (by simp)]; rfl
structure IX (l:List Ev) (k:Nat) (B:MB) (cl en:MI) (gv:MG) (la:MI):Prop where
 b:BOK2 l B
 c:∀ o (j:Nat),lookF o cl=(j:Int)+1 ↔ j < k/\(getE l j).2.1=7/\(getE l j).2.2.1=o
 e:∀ o (j:Nat),lookF o en=(j:Int)+1 ↔ j < k/\(getE l j).2.1=14/\(getE l j).2.2.1=o
 g:∀ o (j:Nat),(j:Int)+1 ∈ lookG o gv ↔ j < k/\(getE l j).2.1=12/\(getE l j).2.2.1=o
 gl:∀ o,(lookG o gv).length <= k
 la:∀ g,lookF g la=lastE g (l.take k) 0
theorem Yd0 {l:List Ev} {k:Nat} (hk:k <= l.length) {K o:Int} (h:cntE (l.take k) K o=0) (j:Nat) (hj:j < k):¬ ((getE l j).2.1=K/\(getE l j).2.2.1=o):=by
 rintro ⟨rfl,rfl⟩;have:=Y46 hj (show j < l.length by omega);rw[Y82 (show j < l.length by omega)] at h;omega
theorem Yf4 {l:List Ev} {k:Nat} (h:k < l.length) {m:MI} {K:Int} (hm:∀ o (j:Nat),lookF o m=(j:Int)+1 ↔ j < k/\(getE l j).2.1=K/\(getE l j).2.2.1=o) (hK:l[k].2.1=K) (h0:cntE (l.take k) K l[k].2.2.1=0) :
  ∀ o (j:Nat),lookF o (@mput Int Int (Ty.beq (.int .i64)) l[k].2.2.1 ((k:Int)+1) m)=(j:Int)+1 ↔ j < k+1/\(getE l j).2.1=K/\(getE l j).2.2.1=o:=by
 intro o j;rw[Yae];by_cases ho:o=l[k].2.2.1
 ·rw[if_pos ho];constructor
  ·intro q;obtain rfl:j=k:=by omega
   rw[Y82 h];exact ⟨by omega,hK,ho.symm⟩
  ·rintro ⟨q1,q2,q3⟩;rcases Nat.lt_or_ge j k with q | q
   ·exact absurd ⟨q2,by rw[q3,ho]⟩ (Yd0 (by omega) h0 j q)
   ·omega
 ·rw[if_neg ho,hm];constructor
  ·rintro ⟨q1,q2⟩; exact ⟨by omega,q2⟩
  ·rintro ⟨q1,q2,q3⟩;refine ⟨?_,q2,q3⟩;rcases Nat.lt_or_ge j k with q | q
   ·exact q
   ·obtain rfl:j=k:=by omega
    rw[Y82 h] at q3;exact absurd q3.symm ho
theorem Yf7 {l:List Ev} {k:Nat} (h:k < l.length) {K:Int} (hK:l[k].2.1 ≠ K) (o:Int) (j:Nat):(j < k+1/\(getE l j).2.1=K/\(getE l j).2.2.1=o) ↔ (j < k/\(getE l j).2.1=K/\(getE l j).2.2.1=o):=by
 constructor
 ·rintro ⟨q1,q2,q3⟩;refine ⟨?_,q2,q3⟩;rcases Nat.lt_or_ge j k with q | q
  ·exact q
  ·obtain rfl:j=k:=by omega
   rw[Y82 h] at q2;exact absurd q2 hK
 ·rintro ⟨q1,q2⟩; exact ⟨by omega,q2⟩
theorem Yd2 {caps:List Int} {l:List Ev} (hG:GoodL caps l) (hl:l.length < 30000) {k:Nat} (h:k < l.length) {B:MB} {cl en:MI} {gv:MG} {la:MI} (hI:IX l k B cl en gv la) :
  ∃ cl' en' gv' la',Z16 ((k:Int),l[k],caps,B,cl,en,gv,la)=some (caps,B,cl',en',gv',la')/\IX l (k+1) B cl' en' gv' la':=by
 have hg:=hG k h;have hlen:(l.take k).length=k:=by simp; omega
 have hla:∀ g,lookF g (@mput Int Int (Ty.beq (.int .i64)) l[k].1 ((k:Int)+1) la)=lastE g (l.take (k+1)) 0:=by
  intro g;rw[Yae,<- List.take_append_getElem h,Y9v,hlen];by_cases q:g=l[k].1
  ·rw[if_pos q,if_pos q.symm]; omega
  ·rw[if_neg q,if_neg (fun e=>q e.symm)]; exact hI.la g
 have hgl:∀ o,(lookG o gv).length <= k+1:=fun o=>Nat.le_succ_of_le (hI.gl o)
 have hr:l[k].2.1=7 \/ l[k].2.1=14->ruleE caps (l.take k) l[k]:=by
  intro q;have h2:=hg.2;rw[if_neg (by omega)] at h2;exact h2.2.2.2.2
 unfold Z16;simp only;rw[wrapI (n:=(k:Int)+1) (by omega) (by omega)];by_cases e7:l[k].2.1=7
 ·rw[bif_t (by simpa using e7)];have h0:=((hr (.inl e7)).2.2.2.2.1 e7).2;refine ⟨_,_,_,_,rfl,hI.b,Yf4 h hI.c e7 h0,fun o j=>?_,fun o j=>?_,hgl,hla⟩
  ·rw[hI.e,Yf7 h (by omega)]
  ·rw[hI.g,Yf7 h (by omega)]
 rw[bif_f (by simpa using e7)];by_cases e14:l[k].2.1=14
 ·rw[bif_t (by simpa using e14)];have h0:=((hr (.inr e14)).2.2.2.2.2.2.2.1 e14).1;refine ⟨_,_,_,_,rfl,hI.b,fun o j=>?_,Yf4 h hI.e e14 h0,fun o j=>?_,hgl,hla⟩
  ·rw[hI.c,Yf7 h (by omega)]
  ·rw[hI.g,Yf7 h (by omega)]
 rw[bif_f (by simpa using e14)];by_cases e12:l[k].2.1=12
 ·rw[bif_t (by simpa using e12)]
  have key:∀ gv',(∀ o,lookG o gv'=if o=l[k].2.2.1 then lookG o gv++[(k:Int)+1] else lookG o gv)->(∀ o (j:Nat),(j:Int)+1 ∈ lookG o gv' ↔ j < k+1/\(getE l j).2.1=12/\(getE l j).2.2.1=o)/\∀ o,(lookG o gv').length <= k+1:=by
   intro gv' hv;constructor
   ·intro o j;rw[hv];by_cases ho:o=l[k].2.2.1
    ·rw[if_pos ho,List.mem_append,hI.g,ms9];constructor
     ·rintro (⟨q1,q2⟩ | q)
      ·exact ⟨by omega,q2⟩
      ·obtain rfl:j=k:=by omega
       rw[Y82 h];exact ⟨by omega,e12,ho.symm⟩
     ·rintro ⟨q1,q2,q3⟩;rcases Nat.lt_or_ge j k with q | q
      ·exact .inl ⟨q,q2,q3⟩
      ·right; omega
    ·rw[if_neg ho,hI.g];constructor
     ·rintro ⟨q1,q2⟩; exact ⟨by omega,q2⟩
     ·rintro ⟨q1,q2,q3⟩;refine ⟨?_,q2,q3⟩;rcases Nat.lt_or_ge j k with q | q
      ·exact q
      ·obtain rfl:j=k:=by omega
       rw[Y82 h] at q3;exact absurd q3.symm ho
   ·intro o;rw[hv];have:=hI.gl o;split
    ·rw[ln9,List.length_singleton]; omega
    ·omega
  cases hh:@mhas Int (List Int) (Ty.beq (.int .i64)) l[k].2.2.1 gv with
  | true =>
   have hgk:(@mlook Int (List Int) (Ty.beq (.int .i64)) [] l[k].2.2.1 gv).length <= k:=hI.gl _;rw[cond_true,bif_t (Y74.2 (by simp only[List.length_cons,List.length_nil]; omega)),bif_t (by simp)]
   have hk:=key _ (fun o=>by
    rw[Yaf];by_cases ho:o=l[k].2.2.1
    ·rw[if_pos ho,if_pos ho,ho]
     try rfl
    ·rw[if_neg ho,if_neg ho])
   refine ⟨_,_,_,_,rfl,hI.b,fun o j=>?_,fun o j=>?_,hk.1,hk.2,hla⟩
   ·rw[hI.c,Yf7 h (by omega)]
   ·rw[hI.e,Yf7 h (by omega)]
  | false =>
   rw[cond_false]
   have hk:=key _ (fun o=>by
    rw[Yaf];by_cases ho:o=l[k].2.2.1
    ·rw[if_pos ho,if_pos ho,ho,show lookG l[k].2.2.1 gv=[] from Yah _ _ hh]
     try rfl
    ·rw[if_neg ho,if_neg ho])
   refine ⟨_,_,_,_,rfl,hI.b,fun o j=>?_,fun o j=>?_,hk.1,hk.2,hla⟩
   ·rw[hI.c,Yf7 h (by omega)]
   ·rw[hI.e,Yf7 h (by omega)]
 ·rw[bif_f (by simpa using e12)];refine ⟨_,_,_,_,rfl,hI.b,fun o j=>?_,fun o j=>?_,fun o j=>?_,hgl,hla⟩
  ·rw[hI.c,Yf7 h (by omega)]
  ·rw[hI.e,Yf7 h (by omega)]
  ·rw[hI.g,Yf7 h (by omega)]
set_option maxHeartbeats 1000000
theorem at_iff {caps:List Int} {l:List Ev} (hG:GoodL caps l) {k:Nat} (h:k < l.length) {B:MB} {cl en:MI} {gv:MG} {la:MI} (hI:IX l k B cl en gv la) {j:Nat} (hj:j < k) :
  (j:Int)+1 ∈ atOf caps l[k] B cl en gv la ↔ isE caps l j k:=by
 have hneg:∀ o n,n < 0->numR l 5 o n=-1:=by
  intro o n hn;apply Yd5;rw[List.find?_eq_none];intro x hx;obtain ⟨i,hi,rfl⟩:=List.mem_iff_getElem.1 hx;have:=(hG i hi).1.2.2.2.2.1;intro q;have:=(Y9g.1 q).2.2;omega
 unfold atOf isE;rw[Y82 h];rw[List.mem_cons,hI.la];generalize he:l[k]=e at *;refine or_congr Iff.rfl ?_;by_cases e0:e.2.1=0
 ·rw[if_pos e0,ms9];exact ⟨fun q=>.inl ⟨e0,by omega⟩,fun q=>by rcases q with q | q | q | q | q | q <;> omega⟩
 rw[if_neg e0];by_cases e5:e.2.1=5
 ·rw[if_pos e5,ms9,hI.b];show (j:Int)+1=numR l 3 _ _+1 ↔ _;exact ⟨fun q=>.inr (.inl ⟨e5,by omega⟩),fun q=>by rcases q with q | q | q | q | q | q <;> omega⟩
 rw[if_neg e5];by_cases e3:e.2.1=3
 ·rw[if_pos e3,ms9,hI.b];show (j:Int)+1=numR l 5 _ _+1 ↔ _;constructor
  ·intro q;refine .inr (.inr (.inl ⟨e3,?_,by omega⟩));rcases Int.lt_or_le e.2.2.2.1 (capO caps e.2.2.1) with q2 | q2
   ·rw[hneg _ _ (by omega)] at q; omega
   ·exact q2
  ·intro q;rcases q with q | q | q | q | q | q <;> omega
 rw[if_neg e3];by_cases e6:e.2.1=6
 ·rw[if_pos e6,ms9];rw[show ((j:Int)+1=lookF e.2.2.1 cl) ↔ _ from eq_comm.trans (hI.c _ _)];exact ⟨fun q=>.inr (.inr (.inr (.inl ⟨e6,q.2⟩))),fun q=>by rcases q with q | q | q | q | q | q <;> first | omega | exact ⟨hj,q.2⟩⟩
 rw[if_neg e6];by_cases e11:e.2.1=11
 ·rw[if_pos e11,hI.g];exact ⟨fun q=>.inr (.inr (.inr (.inr (.inl ⟨e11,q.2⟩)))),fun q=>by rcases q with q | q | q | q | q | q <;> first | omega | exact ⟨hj,q.2⟩⟩
 rw[if_neg e11];by_cases e15:e.2.1=15
 ·rw[if_pos e15,ms9];rw[show ((j:Int)+1=lookF e.2.2.1 en) ↔ _ from eq_comm.trans (hI.e _ _)];exact ⟨fun q=>.inr (.inr (.inr (.inr (.inr ⟨e15,q.2⟩)))),fun q=>by rcases q with q | q | q | q | q | q <;> first | omega | exact ⟨hj,q.2⟩⟩
 rw[if_neg e15];exact ⟨fun q=>by simp at q,fun q=>by rcases q with q | q | q | q | q | q <;> omega⟩
theorem Y61 {caps:List Int} {l:List Ev} (hG:GoodL caps l) {k:Nat} (h:k < l.length) {B:MB} {cl en:MI} {gv:MG} {la:MI} (hI:IX l k B cl en gv la) :
  Y4h (Yix (mineOf (atOf caps l[k] B cl en gv la) k) 0 (mineOf (atOf caps l[k] B cl en gv la) k).length)=Y5w caps l k:=by
 refine Y4p _ _ (Y5y caps l k) fun x=>?_
 rw[Y5z,Ybw];constructor
 ·rintro ⟨j,rfl,h1,h2⟩; exact ⟨j,rfl,h1,(at_iff hG h hI h1).2 h2⟩
 ·rintro ⟨j,rfl,h1,h2⟩; exact ⟨j,rfl,h1,(at_iff hG h hI h1).1 h2⟩
theorem Y5x (caps:List Int) (l:List Ev) (k:Nat):(Y5w caps l k).length <= k:=by
 unfold Y5w;rw[List.length_map];have:=List.length_filter_le (fun j=>tB (isE caps l j k)) (List.range k);simpa using this
theorem Y1i {caps:List Int} {l:List Ev} (hc:capsOK caps) (hG:GoodL caps l) (hl:l.length < 29000):Zy (caps,l)=some ((List.range l.length).map (Y5w caps l),0):=by
 obtain ⟨B,hB1,hB2⟩:=Ycn hG (show l.length < 30000 by omega)
 have key:=Yau (f:=Z9h) (fun x=>∃ (k:Nat) (cl en:MI) (gv:MG) (la:MI),x=(l,(l.length:Int),(k:Int),caps,B,cl,en,gv,la,(List.range k).map (Y5w caps l))/\k <= l.length/\IX l k B cl en gv la)
  (fun y=>y=.inr ((List.range l.length).map (Y5w caps l))) (fun x=>(x.2.1 - x.2.2.1).toNat) (by
   rintro x ⟨k,cl,en,gv,la,rfl,hk,hI⟩;by_cases h:k < l.length
   ·left;obtain ⟨cl',en',gv',la',n1,n2⟩:=Yd2 hG (show l.length < 30000 by omega) h hI;refine ⟨_,?_,⟨k+1,cl',en',gv',la',rfl,h,n2⟩,by simp only; omega⟩;have hg:=hG k h;have hlen:(l.take k).length=k:=by simp; omega
    have hs:=hg.1.2.2.2.2.2
    have h3:l[k].2.1=3->0 <= l[k].2.2.1/\l[k].2.2.1 < caps.length/\-1 <= capO caps l[k].2.2.1/\capO caps l[k].2.2.1 <= 3/\0 <= l[k].2.2.2.1/\l[k].2.2.2.1 < 30000:=by
     intro q;have h2:=hg.2;rw[if_neg (by rw[q]; decide)] at h2;have ho:=h2.2.2.1 (by rw[q]; decide);have hoK:objK caps l[k].2.1=caps.length:=by rw[q]; rfl
     rw[hoK] at ho;have h5:=Y37 hc.2 l[k].2.2.1;have h6:=(Y8c hG h (.inl q)).1;have h7:=Y48 (l.take k) l[k].2.1 l[k].2.2.1;exact ⟨ho.1,ho.2,h5.1,h5.2,by omega,by omega⟩
    have hg1:=of1_eq caps l[k] k B cl en gv la (by omega) ⟨hs.1,by omega⟩ (by have:=hI.gl l[k].2.2.1; omega) h3;have hm:=Ybv (atOf caps l[k] B cl en gv la) k
    have ha:(atOf caps l[k] B cl en gv la).length <= 60000:=by
     unfold atOf;rw[List.length_cons];have:=hI.gl l[k].2.2.1
     repeat' split
     all_goals first | (simp only[List.length_cons,List.length_nil]; omega) | omega
    have hsl:(Yix (mineOf (atOf caps l[k] B cl en gv la) k) 0 (mineOf (atOf caps l[k] B cl en gv la) k).length).length <= 60000:=by
     rw[Yiy,Yit]; omega
    unfold Z9h;simp only;rw[bif_t (dT9 (by omega)),bif_t (Y8t h),getAtE h];unfold Z18;simp only[bS9];rw[hg1];simp only[bS9];rw[bif_t (by rfl),bif_t (Y74.2 (by omega)),bif_t (Y74.2 (by omega)),Y61 hG h hI,bif_t (Y74.2 (by simp only[List.length_cons,List.length_nil,List.length_map,List.length_range]; omega)),n1,wrapI (by omega) (by omega)];simp only[bS9];rw[List.range_succ,List.map_append];rfl
   ·obtain rfl:k=l.length:=by omega
    refine .inr ⟨_,?_,rfl⟩;unfold Z9h;simp only;rw[bif_f (dF9 (by omega))])
 have h0:IX l 0 B [] [] [] []:=by
  refine ⟨hB2,fun o j=>?_,fun o j=>?_,fun o j=>?_,fun o=>?_,fun g=>?_⟩
  ·show (0:Int)=(j:Int)+1 ↔ _;constructor
   ·intro q; omega
   ·rintro ⟨q,_⟩; omega
  ·show (0:Int)=(j:Int)+1 ↔ _;constructor
   ·intro q; omega
   ·rintro ⟨q,_⟩; omega
  ·show (j:Int)+1 ∈ ([]:List Int) ↔ _;constructor
   ·intro q; simp at q
   ·rintro ⟨q,_⟩; omega
  ·exact Nat.zero_le _
  ·rfl
 obtain ⟨y,e1,rfl⟩:=key (l,(l.length:Int),((0:Nat):Int),caps,B,[],[],[],[],[]) ⟨0,[],[],[],[],rfl,Nat.zero_le _,h0⟩;obtain ⟨r,e,w1,w2⟩:=Ykx caps l (by have:=hc.1; omega) (by omega);rcases w2 with ⟨_,rfl,hw⟩ | ⟨q,_⟩
 case inr=>exact absurd hc q
 obtain rfl:r=-1:=hw.uniq (.inl ⟨rfl,hG⟩);unfold Zy;simp only;rw[w1];simp only[bS9];rw[bif_f (by rfl),bif_f (by rfl),hB1];simp only[bS9];rw[show loop Z9h (l,((l.length:Nat):Int),0,caps,B,[],[],[],[],[])=_ from e1];rfl
set_option maxHeartbeats 1000000
def RC (c:List Int):Prop:=c.length <= 16/\∀ n ∈ c,0 <= n/\n <= 1099511627776
set_option maxHeartbeats 1000000
def atC (c:List Int) (g:Nat):Int:=c.getD g 0
def trimN (w:List Int):Nat->Nat
 | 0=>0
 | k+1=>if w.getD k 0=0 then trimN w k else k+1
def trimC (w:List Int):List Int:=w.take (trimN w w.length)
def joinW (a b:List Int):List Int:=(List.range 16).map fun g=>max (atC a g) (atC b g)
set_option maxHeartbeats 1000000
def tickW (c:List Int) (g:Nat):List Int:=(List.range 16).map fun j=>if j=g then atC c j+1 else atC c j
set_option maxHeartbeats 1000000
open Go.Proofs
set_option maxHeartbeats 1000000
def BC (m:Int) (c:List Int):Prop:=c.length <= 16/\∀ n ∈ c,0 <= n/\n <= m
theorem BC.mono {m m':Int} {c:List Int} (h:BC m c) (hm:m <= m'):BC m' c:=⟨h.1,fun n hn=>⟨(h.2 n hn).1,by have:=(h.2 n hn).2; omega⟩⟩
theorem BC.at {m:Int} {c:List Int} (h:BC m c) (hm:0 <= m) (g:Nat):0 <= atC c g/\atC c g <= m:=by
 unfold atC;by_cases hg:g < c.length
 ·have:=h.2 c[g] (gm9 hg);simp[List.getD,hg]; omega
 ·simp[List.getD,hg]; omega
theorem BC.nil (m:Int):BC m []:=⟨by decide,fun n hn=>by simp at hn⟩
theorem BC.trim {m:Int} {w:List Int} (h:BC m w):BC m (trimC w):=by
 unfold trimC;refine ⟨by rw[List.length_take]; have:=h.1; omega,fun n hn=>h.2 n (List.mem_of_mem_take hn)⟩
theorem BC.join {m:Int} {a b:List Int} (ha:BC m a) (hb:BC m b) (hm:0 <= m):BC m (trimC (joinW a b)):=by
 refine BC.trim ⟨by unfold joinW; simp,fun n hn=>?_⟩;unfold joinW at hn;obtain ⟨g,_,rfl⟩:=List.mem_map.1 hn;have h1:=ha.at hm g;have h2:=hb.at hm g;omega
def Y9p (out:List (List Int)) (es:List Int):List Int:=es.foldl (fun c k=>trimC (joinW c (out.getD k.toNat []))) []
theorem BC.all {m:Int} {out:List (List Int)} (h:∀ c ∈ out,BC m c) (hm:0 <= m):∀ (es:List Int) (c:List Int),BC m c->BC m (es.foldl (fun c k=>trimC (joinW c (out.getD k.toNat []))) c)
 | [],c,hc=>hc
 | k :: es,c,hc=>by
  rw[List.foldl_cons];refine BC.all h hm es _ (hc.join ?_ hm);by_cases hk:k.toNat < out.length
  ·rw[show out.getD k.toNat []=out[k.toNat] by simp[List.getD,hk]];exact h _ (gm9 hk)
  ·rw[show out.getD k.toNat []=[] by simp[List.getD,hk]];exact BC.nil m
noncomputable def Y3v (caps:List Int) (l:List Ev):Nat->List (List Int)
 | 0=>[]
 | i+1=>Y3v caps l i++[trimC (tickW (Y9p (Y3v caps l i) (Y5w caps l i)) (getE l i).1.toNat)]
set_option maxHeartbeats 1000000
open Go.Proofs
set_option maxHeartbeats 1000000
open Go.Proofs
set_option maxHeartbeats 1000000
open Go.Proofs
section
variable (caps:List Int) (l:List Ev)
noncomputable def J (i g:Nat):Int:=atC (Y9p (Y3v caps l i) (Y5w caps l i)) g
variable {caps l}
def cG (l:List Ev) (g:Int) (i:Nat):Nat:=((l.take i).filter fun e=>e.1 == g).length
theorem Y32 {i:Nat} (h:i < l.length) (g:Int):cG l g (i+1)=cG l g i+if l[i].1=g then 1 else 0:=by
 unfold cG;rw[<- List.take_append_getElem h,List.filter_append,ln9];congr 1;by_cases q:l[i].1=g
 ·rw[if_pos q,List.filter_cons_of_pos (by simpa using q)]; rfl
 ·rw[if_neg q,List.filter_cons_of_neg (by simpa using q)]; rfl
theorem Y31 {a b:Nat} (h:a <= b) (g:Int):cG l g a <= cG l g b:=by
 unfold cG;exact ((List.take_prefix_take_left h).sublist.filter _).length_le
theorem Y9y (g:Int):∀ i,i <= l.length->(lastE g (l.take i) 0=0->cG l g i=0)/\∀ k,lastE g (l.take i) 0=k+1->∃ h:k < l.length,k < i/\l[k].1=g/\cG l g (k+1)=cG l g i
 | 0,_=>⟨fun _=>rfl,fun k h=>by simp[lastE] at h⟩
 | i+1,hi=>by
  have h:i < l.length:=hi;obtain ⟨h1,h2⟩:=Y9y g i (by omega);rw[<- List.take_append_getElem h,Y9v,Y32 h];have hlen:(l.take i).length=i:=by rw[List.length_take]; omega
  by_cases q:l[i].1=g
  ·rw[if_pos q,if_pos q,hlen];refine ⟨fun z=>by omega,fun k z=>?_⟩;obtain rfl:k=i:=by omega
   exact ⟨h,by omega,q,by rw[Y32 h,if_pos q]⟩
  ·rw[if_neg q,if_neg q];refine ⟨fun z=>by rw[h1 z],fun k z=>?_⟩;obtain ⟨h3,h4,h5,h6⟩:=h2 k z;exact ⟨h3,by omega,h5,by omega⟩
theorem Y5t {i k:Nat} (h:lastE (getE l i).1 (l.take i) 0=k+1):isE caps l k i:=.inl (by omega)
inductive Reach (caps:List Int) (l:List Ev):Nat->Nat->Prop
 | refl (i:Nat):Reach caps l i i
 | step {j k i:Nat} (h:Reach caps l j k) (hk:k < i) (he:isE caps l k i):Reach caps l j i
theorem Reach.le {j i:Nat} (h:Reach caps l j i):j <= i:=by
 induction h with
 | refl=>exact Nat.le_refl _
 | step _ h2 _ ih=>omega
theorem Reach.trans {a b c:Nat} (h:Reach caps l a b) (k:Reach caps l b c):Reach caps l a c:=by
 induction k with
 | refl=>exact h
 | step _ h2 h3 ih=>exact .step ih h2 h3
theorem Y8j (hG:GoodL caps l) {i:Nat} (h:i < l.length) (h0:i ≠ 0):∃ k,k < i/\isE caps l k i:=by
 obtain ⟨l1,l2⟩:=Y9y (l:=l) (getE l i).1 i (by omega);cases hl:lastE (getE l i).1 (l.take i) 0 with
 | succ k=>exact ⟨k,(l2 k hl).2.1,Y5t hl⟩
 | zero =>
  have hg:=hG i h;rw[Y82 h] at hl
  have hk:l[i].2.1=0:=Classical.byContradiction fun q=>by
   have:=hg.2;rw[if_neg q] at this;exact this.1 hl
  have hs:=hg.2;rw[if_pos hk] at hs;by_cases g0:l[i].1=0
  ·exfalso
   -- the first event is of goroutine 0
   have hf:=hG 0 (by omega)
   have hf0:l[0].2.1=0:=Classical.byContradiction fun q=>by
    have:=hf.2;rw[if_neg q] at this;exact this.1 rfl
   have hs0:=hf.2;rw[if_pos hf0] at hs0
   have hz:l[0].1=0:=Classical.byContradiction fun q=>by
    have h3:=hs0.2.2.2;rw[if_neg q] at h3;have h4:=hf.1.2.2.2.2.2.2;have h5:((l.take 0).length:Int)=0:=rfl;omega
   have h1:=l1 (by rw[Y82 h]; exact hl);have h2:=Y31 (l:=l) (show 0+1 <= i by omega) (getE l i).1;rw[Y32 (show 0 < l.length by omega),Y82 h,if_pos (by rw[hz,g0])] at h2;rw[Y82 h] at h1;omega
  ·have h3:=hs.2.2.2;rw[if_neg g0] at h3;have h4:=hg.1.2.2.2.2.2.2;have h5:((l.take i).length:Int)=i:=by rw[List.length_take]; omega
   refine ⟨l[i].2.2.2.2.toNat,by omega,.inr (.inl ?_)⟩;rw[Y82 h];exact ⟨hk,by omega⟩
end
set_option maxHeartbeats 1000000
section
variable (caps:List Int) (l:List Ev)
noncomputable def tk (i:Nat):Nat:=cG l (getE l i).1 (i+1)
def Hb (i j:Nat):Prop:=Reach caps l i j/\i ≠ j
variable {caps l}
end
set_option maxHeartbeats 1000000
section
variable {caps:List Int} {l:List Ev}
theorem Hb.lt {i j:Nat} (h:Hb caps l i j):i < j:=by have:=h.1.le; have:=h.2; omega
noncomputable def rowB (n:Nat) (p:Nat->Prop):List Bool:=(List.range n).map fun k=>tB (p k)
end
set_option maxHeartbeats 1000000
section
variable {caps:List Int} {l:List Ev}
end
abbrev W:=Int × (Int × Int)
abbrev K:=Int × Int
def keyW (w:W):K:=(w.1,w.2.1)
def isW (w:W):Prop:=0 <= w.1/\0 <= w.2.1/\0 <= w.2.2
instance (w:W):Decidable (isW w):=by unfold isW; infer_instance
def eqK:K->K->Bool:=Ty.beq (.pair (.int .i64) (.int .i64))
theorem Y69 (a b:K):eqK a b=true ↔ a=b:=by
 show (a.1 == b.1 && a.2 == b.2)=true ↔ a=b;rw[ba9,beq_iff_eq,beq_iff_eq,Prod.ext_iff]
theorem Y9i (w:W):Z9b w=some (decide (isW w)):=by
 simp only[Z9b,isW,cond_eq_ite,decide_eq_true_eq]
 repeat' split
 all_goals first | exact decF (by omega) | exact decT (by omega) | exact decE (by omega)
theorem Y9o (l:List W) (hl:l.length < 4611686018427387904):Z6p l=some (l.any fun w=>!decide (isW w)):=by
 unfold Z6p Z7d
 have:=Yar (f:=Zb5) l (fun w=>!decide (isW w)) (fun k=>(l,(l.length:Int),(k:Int))) (fun k=>.inl (k:Int)) (.inr ()) (by
  intro k hk;unfold Zb5 Z98;simp only;rw[bif_t (by simpa using hk),bif_t (Y8t hk),Yk0,getAtL _ hk,Y9i];simp only[bS9];rw[wrapI (by omega) (by omega)];cases h:decide (isW l[k]) <;> rfl) (by
  unfold Zb5;simp only;rw[bif_f (by simp)])
 rw[show loop Zb5 (l,(l.length:Int),(0:Int))=_ from this,<- List.findIdx?_isSome];cases l.findIdx? fun w=>!decide (isW w) with
 | none=>rfl
 | some i=>simp
def stepM (m:List (K × Int)) (w:W):List (K × Int):=mput eqK (keyW w) (mlook eqK 0 (keyW w) m+1) m
def mets (l:List W):List (K × Int):=l.foldl stepM []
theorem Ybo:∀ (l:List W) (m:List (K × Int)) (ks:List K),(∀ k,mlook eqK (0:Int) k m=(ks.count k:Nat))->(∀ k,mhas eqK k m=decide (k ∈ ks)) ->
  (∀ k,mlook eqK (0:Int) k (l.foldl stepM m)=((ks++l.map keyW).count k:Nat))/\(l.foldl stepM m).length <= m.length+l.length/\((l.foldl stepM m).length=m.length+l.length ↔ (l.map keyW).Nodup/\∀ k ∈ l.map keyW,k ∉ ks)
 | [],m,ks,h1,h2=>⟨fun k=>by simp[h1],by simp,by simp⟩
 | w :: l,m,ks,h1,h2=>by
  have ih:=Ybo l (stepM m w) (ks++[keyW w]) (fun k=>by
   unfold stepM;rw[Ych Y69];by_cases e:k=keyW w
   ·rw[if_pos e,<- e,h1,List.count_append]; simp
   ·rw[if_neg e,h1,List.count_append,List.count_singleton];rw[show (keyW w == k)=false by simpa using fun h=>e h.symm]; simp) (fun k=>by
   unfold stepM;rw[Ycf Y69,h2];by_cases e:k=keyW w
   ·rw[(Y69 _ _).2 e]; simp[e]
   ·rw[show eqK k (keyW w)=false by
     cases hb:eqK k (keyW w) with
     | false=>rfl
     | true=>exact absurd ((Y69 _ _).1 hb) e]
    simp[e])
  obtain ⟨i1,i2,i3⟩:=ih
  have hlen:(stepM m w).length=if keyW w ∈ ks then m.length else m.length+1:=by
   unfold stepM;rw[Yce,h2]; simp
  refine ⟨fun k=>by rw[List.foldl_cons,i1]; simp,?_,?_⟩
  ·rw[List.foldl_cons,List.length_cons];split at hlen <;> omega
  ·rw[List.foldl_cons,List.length_cons,List.map_cons,List.nodup_cons];by_cases e:keyW w ∈ ks
   ·rw[if_pos e] at hlen;constructor
    ·intro h; omega
    ·intro h; exact absurd e (h.2 _ (List.mem_cons_self ..))
   ·rw[if_neg e] at hlen;rw[show m.length+(l.length+1)=(stepM m w).length+l.length by omega,i3];constructor
    ·rintro ⟨q1,q2⟩;refine ⟨⟨fun h=>(q2 _ h) (by simp),q1⟩,fun k hk=>?_⟩;rcases List.mem_cons.1 hk with rfl | hk
     ·exact e
     ·exact fun h=>q2 k hk (by simp[h])
    ·rintro ⟨⟨q1,q2⟩,q3⟩;refine ⟨q2,fun k hk h=>?_⟩;rcases List.mem_append.1 h with h | h
     ·exact q3 k (List.mem_cons_of_mem _ hk) h
     ·simp at h; subst h; exact q1 hk
theorem Ybp (l:List W) (k:K):mlook eqK (0:Int) k (mets l)=((l.map keyW).count k:Nat):=by
 have:=(Ybo l [] [] (fun k=>rfl) (fun k=>rfl)).1 k;simpa[mets] using this
theorem Ybq (l:List W):(mets l).length=l.length ↔ (l.map keyW).Nodup:=by
 have:=(Ybo l [] [] (fun k=>rfl) (fun k=>rfl)).2.2;simpa[mets] using this
theorem met_eq (l:List W) (hl:l.length < 4611686018427387904):Z9d l=some (mets l):=by
 unfold Z9d
 have:=Yap (f:=Zbf) l.length (fun k=>(l,(l.length:Int),(k:Int),mets (l.take k))) (mets l) (by
  intro k hk;unfold Zbf;simp only;rw[bif_t (by simpa using hk),bif_t (Y8t hk),Yk0,getAtL _ hk];have hc:=Ybp (l.take k) (keyW l[k]);have hle:((l.take k).map keyW).count (keyW l[k]) <= k:=Nat.le_trans (List.count_le_length) (by simp; omega)
  show (bif inb ((mpos eqK (keyW l[k]) (mets (l.take k)):Nat):Int) (mput eqK (keyW l[k]) (mlook eqK (0:Int) (keyW l[k]) (mets (l.take k))) (mets (l.take k))).length then
   some (Sum.inl (l,(l.length:Int),IntKind.wrap .i64 ((k:Int)+1),mset (mput eqK (keyW l[k]) (mlook eqK (0:Int) (keyW l[k]) (mets (l.take k))) (mets (l.take k))) (mpos eqK (keyW l[k]) (mets (l.take k))) (IntKind.wrap .i64 (mlook eqK (0:Int) (keyW l[k]) (mets (l.take k))+1)))) else none)=_
  rw[bif_t (Y8t (Ycd _ _)),wrapI (n:=(k:Int)+1) (by omega) (by omega)];have hw:IntKind.wrap .i64 (mlook eqK (0:Int) (keyW l[k]) (mets (l.take k))+1)=mlook eqK (0:Int) (keyW l[k]) (mets (l.take k))+1:=wrapI (by omega) (by omega)
  have hst:mets (l.take (k+1))=stepM (mets (l.take k)) l[k]:=by
   unfold mets;rw[List.take_succ_eq_append_getElem hk,List.foldl_append]; rfl
  rw[hst];rw[hw,Yck];rfl) (by
  unfold Zbf;simp only;rw[bif_f (by simp),List.take_length]) 0 (Nat.zero_le _)
 rw[show loop Zbf (l,(l.length:Int),(0:Int),([]:List ((Int × Int) × Int)))=_ from this];rfl
def wOK (l:List W):Prop:=(∀ w ∈ l,isW w)/\l.length <= 64/\(l.map keyW).Nodup
instance (l:List W):Decidable (wOK l):=by unfold wOK; infer_instance
theorem Ykd (l:List W) (hl:l.length < 4611686018427387904):Z97 l=some (decide (wOK l)):=by
 unfold Z97;rw[Y9o l hl];simp only[bS9];by_cases h1:∀ w ∈ l,isW w
 ·rw[bif_f (by simpa using h1)];by_cases h2:l.length <= 64
  ·rw[bif_t (by simp; omega),met_eq l hl];simp only[bS9];by_cases h3:(l.map keyW).Nodup
   ·rw[(Ybq l).2 h3];exact (by simp:some (((l.length:Nat):Int) == (l.length:Int))=some true).trans (decT ⟨h1,h2,h3⟩)
   ·have:(((mets l).length:Int) == (l.length:Int))=false:=by
     have:=mt (Ybq l).1 h3;simp; omega
    rw[this];exact decF fun h=>h3 h.2.2
  ·rw[bif_f (by simp; omega)];exact decF fun h=>h2 h.2.1
 ·rw[bif_t (by simpa using h1)];exact decF fun h=>h1 h.1
theorem Ykh (l:List W) (h:l.length <= 4294967296):Z6b l=some l:=by
 unfold Z6b;by_cases hl:l.length=0
 ·obtain rfl:l=[]:=List.length_eq_zero_iff.1 hl;rw[bif_t (by rfl),bif_t (by rfl)];show amb (some []) (some [])=_;unfold amb;rw[if_pos rfl]
 ·rw[bif_f (by
   cases hb:Nat.beq l.length 0 with
   | false=>rfl
   | true=>exact absurd (eb9 hb) hl),bif_t (Y74.2 (by simpa using h))]
  rfl
theorem Ykn (l:List W) (w:W) (hl:l.length < 4611686018427387904):Z95 (l,w)=some (if wOK l then (if isW w then (if keyW w ∈ l.map keyW then ([],7) else if l.length=64 then ([],5) else (l++[w],0)) else ([],1)) else ([],1)):=by
 unfold Z95;simp only;rw[Ykd l hl];simp only[bS9];by_cases h1:wOK l
 ·rw[bif_f (by simp[h1]),if_pos h1,Y9i];simp only[bS9];by_cases h2:isW w
  ·rw[bif_f (by simp[h2]),if_pos h2,met_eq l hl];simp only[bS9];have hc:=Ybp l (keyW w);show (bif decide (mlook eqK (0:Int) (keyW w) (mets l) > 0) then _ else _)=_;rw[hc];by_cases h3:keyW w ∈ l.map keyW
   ·rw[bif_t (by have:=List.count_pos_iff.2 h3; simp; simpa using h3),if_pos h3]
   ·rw[bif_f (by have:=List.count_eq_zero.2 h3; simp[this]),if_neg h3];obtain ⟨_,h4,_⟩:=h1;by_cases h5:l.length=64
    ·rw[bif_t (by simp[h5]),if_pos h5]
    ·rw[bif_f (by simp; omega),if_neg h5,Ykh l (by omega)];simp only[bS9];rw[bif_t (Y74.2 (by simp; omega))]
  ·rw[bif_t (by simp[h2]),if_neg h2]
 ·rw[bif_t (by simp[h1]),if_neg h1]
def zeroW:W:=(0,0,0)
def notG (g:Int) (w:W):Bool:=w.1 != g
theorem Ykj (l:List W) (g:Int) (hl:l.length < 4611686018427387904):Z90 (l,g)=some (if wOK l then (if g < 0 then (zeroW,(1:Int)) else match l.findIdx? (notG g) with | some i=>(l.getD i zeroW,(0:Int)) | none=>(zeroW,(4:Int))) else (zeroW,(1:Int))):=by
 unfold Z90;simp only;rw[Ykd l hl];simp only[bS9];by_cases h1:wOK l
 ·rw[bif_f (by simp[h1]),if_pos h1];by_cases h2:g < 0
  ·rw[bif_t (by simpa using h2),if_pos h2]; rfl
  ·rw[bif_f (by simpa using h2),if_neg h2]
   have:=Yar (f:=Zb3) l (notG g) (fun k=>(l,(l.length:Int),(k:Int),g)) (fun k=>.inl ((k:Int),g)) (.inr g) (by
    intro k hk;unfold Zb3 Z91;simp only;rw[bif_t (by simpa using hk),bif_t (Y8t hk),Yk0,getAtL _ hk];simp only[bS9];rw[wrapI (by omega) (by omega)];show (bif notG g l[k] then _ else _)=_;cases h:notG g l[k] <;> rfl) (by
    unfold Zb3;simp only;rw[bif_f (by simp)])
   unfold Z7b;simp only;rw[show loop Zb3 (l,(l.length:Int),(0:Int),g)=_ from this];cases hf:l.findIdx? (notG g) with
   | none=>rfl
   | some i =>
    obtain ⟨hi,_⟩:=List.findIdx?_eq_some_iff_getElem.1 hf;simp only[bS9];rw[bif_f (by simp),bif_t (Y8t hi),Yk0,Y7v];rfl
 ·rw[bif_t (by simp[h1]),if_neg h1]; rfl
theorem Y9n (l:List W) (g:Int) (hl:l.length < 4611686018427387904):Z79 (l,g)=some (match l.findIdx? (fun w=>w.1 == g) with | some i=>((i:Int),l,g) | none=>(Int.negSucc 0,l,g)):=by
 have:=Yar (f:=Zb1) l (fun w=>w.1 == g) (fun k=>((l.length:Int),(k:Int),l,g)) (fun k=>.inl ((k:Int),l,g)) (.inr (l,g)) (by
  intro k hk;unfold Zb1 Z8w;simp only;rw[bif_t (by simpa using hk),bif_t (Y8t hk),Yk0,getAtL _ hk];simp only[bS9];rw[wrapI (by omega) (by omega)];cases h:(l[k].1 == g) <;> rfl) (by
  unfold Zb1;simp only;rw[bif_f (by simp)])
 unfold Z79;simp only;rw[show loop Zb1 ((l.length:Int),(0:Int),l,g)=_ from this];cases l.findIdx? fun w=>w.1 == g <;> rfl
theorem Y5b (l:List W) (g:Int) (hl:l.length <= 64):Z6x (g,l)=some (l.filter (notG g),g):=by
 unfold Z6x;simp only;rw[Y9n l g (by omega)];simp only[bS9];cases hf:l.findIdx? (fun w=>w.1 == g) with
 | none =>
  rw[List.findIdx?_eq_none_iff] at hf;rw[bif_t (by rfl)];have:l.filter (notG g)=l:=List.filter_eq_self.2 fun w hw=>by have:=hf w hw; simpa[notG] using this
  rw[this]
 | some i =>
  obtain ⟨hi,hp,hq⟩:=List.findIdx?_eq_some_iff_getElem.1 hf;simp only;rw[bif_f (by simp),wrapI (by omega) (by omega)]
  obtain ⟨y,y1,y2⟩:=Yau (f:=Zap) (fun x=>∃ (a b:Nat) (s:List W),x=((a:Int),(b:Int),g,s)/\a <= b/\b <= l.length/\s.length=l.length/\s.take a=(l.take b).filter (notG g)/\s.drop b=l.drop b)
   (fun y=>∃ (a:Nat) (s:List W),y=((a:Int),g,s)/\a <= l.length/\s.length=l.length/\s.take a=l.filter (notG g)) (fun x=>l.length - x.2.1.toNat) (by
   rintro x ⟨a,b,s,rfl,hab,hb,hs,h1,h2⟩;unfold Zap Z8w;simp only;by_cases hlt:b < l.length
   ·left
    have hsb:s[b]'(by omega)=l[b]:=by
     have e1:=List.getElem_drop (xs:=s) (i:=b) (j:=0) (h:=by simp; omega);have e2:=List.getElem_drop (xs:=l) (i:=b) (j:=0) (h:=by simp; omega);simp only[h2,Nat.add_zero] at e1 e2;rw[<- e1,<- e2]
    rw[bif_t (by simp; omega),bif_t (Y8t (by omega)),Yk0,getAtL _ (by omega:b < s.length),hsb];simp only[bS9];rw[wrapI (n:=(b:Int)+1) (by omega) (by omega)];by_cases hg:l[b].1=g
    ·rw[bif_f (by simp[hg])];refine ⟨_,rfl,⟨a,b+1,s,rfl,by omega,hlt,hs,?_,?_⟩,?_⟩
     ·rw[h1,List.take_succ_eq_append_getElem hlt,List.filter_append];simp[notG,hg]
     ·rw[<- List.drop_drop (i:=1) (j:=b),<- List.drop_drop (i:=1) (j:=b),h2]
     ·show l.length - ((b:Int)+1).toNat < l.length - (b:Int).toNat; omega
    ·rw[bif_t (by simp[hg]),bif_t (Y8t (by omega)),Yk0,wrapI (n:=(a:Int)+1) (by omega) (by omega)];refine ⟨_,rfl,⟨a+1,b+1,s.set a l[b],rfl,by omega,hlt,by simpa using hs,?_,?_⟩,?_⟩
     ·rw[List.take_succ_eq_append_getElem (by simp; omega),List.take_set_of_le (Nat.le_refl a),h1,List.take_succ_eq_append_getElem hlt,List.filter_append];have:notG g l[b]=true:=by simpa[notG] using hg
      simp[this]
     ·rw[List.drop_set_of_lt (by omega),<- List.drop_drop (i:=1) (j:=b),<- List.drop_drop (i:=1) (j:=b),h2]
     ·show l.length - ((b:Int)+1).toNat < l.length - (b:Int).toNat; omega
   ·right;rw[bif_f (by simp; omega)];refine ⟨_,rfl,a,s,rfl,by omega,hs,?_⟩;rw[h1,List.take_of_length_le (by omega)]) ((i:Int),(i:Int)+1,g,l) ⟨i,i+1,l,rfl,by omega,hi,rfl,by
    rw[List.take_succ_eq_append_getElem hi,List.filter_append]
    have:(l.take i).filter (notG g)=l.take i:=List.filter_eq_self.2 fun w hw=>by
     obtain ⟨j,hj,rfl⟩:=List.getElem_of_mem hw;have hj2:j < i:=by simp at hj; omega
     have:=hq j hj2;simp only[List.getElem_take];simpa[notG] using this
    rw[this];have hp:l[i].1=g:=by simpa using hp
    simp[notG,hp],rfl⟩
  rw[y1];obtain ⟨a,s,rfl,h1,h2,h3⟩:=y2;simp only[bS9];rw[bif_t (sub3L.2 (by omega))]
  have hov:∀ (z:List W),z.length=s.length - a->(over s z a (s.length - a)).length=s.length/\(over s z a (s.length - a)).take a=s.take a:=by
   intro z hz;unfold over;constructor
   ·simp; omega
   ·rw[la9,List.take_append_of_le_length (by simp; omega),List.take_of_length_le (by simp; omega)]
  have hz:=hov (List.replicate (s.length - a) ((0:Int),(0:Int),(0:Int))) (by simp);have e1:toN (s.length:Int) - toN (a:Int)=s.length - a:=rfl;have e2:toN (a:Int)=a:=rfl;rw[e1,e2];rw[bif_t (sub3L.2 (by rw[hz.1]; omega))]
  have:cut (over s (List.replicate (s.length - a) ((0:Int),(0:Int),(0:Int))) a (s.length - a)) (toN 0) (a - toN 0)=l.filter (notG g):=by
   unfold cut;show ((over s _ a (s.length - a)).drop 0).take a=_;rw[List.drop_zero,hz.2,h3]
  rw[this]
theorem Yki (l:List W) (g:Int) (hl:l.length < 4611686018427387904):Z8v (l,g)=some (if wOK l then (if g < 0 then ([],1) else (l.filter (notG g),0)) else ([],1)):=by
 unfold Z8v;simp only;rw[Ykd l hl];simp only[bS9];by_cases h1:wOK l
 ·rw[bif_f (by simp[h1]),if_pos h1];by_cases h2:g < 0
  ·rw[bif_t (by simpa using h2),if_pos h2]
  ·obtain ⟨_,h4,_⟩:=h1;rw[bif_f (by simpa using h2),if_neg h2,Ykh l (by omega)];simp only[bS9];rw[Y5b l g h4];rfl
 ·rw[bif_t (by simp[h1]),if_neg h1]
open Go.Proofs
abbrev Rg:=Int × (Int × (List Int × Int))
def rOK (r:Rg):Prop:=0 <= r.1/\r.1 <= 8/\(r.2.2.1.length:Int)=r.1/\0 <= r.2.2.2/\r.2.2.2 <= r.1/\0 <= r.2.1/\r.2.1 < max 1 r.1
instance (r:Rg):Decidable (rOK r):=by unfold rOK; infer_instance
def rSlot (r:Rg) (i:Nat):Nat:=(r.2.1.toNat+i) % r.1.toNat
def rItems (r:Rg):List Int:=(List.range r.2.2.2.toNat).map fun i=>r.2.2.1.getD (rSlot r i) 0
theorem Yg3 (r:Rg):Z5j r=some (decide (rOK r)):=by
 obtain ⟨c,f,s,n⟩:=r;simp only[Z5j,rOK,cond_eq_ite,decide_eq_true_eq,beq_iff_eq]
 repeat' split
 all_goals first | exact decF (by omega) | exact decT (by omega) | exact decE (by omega)
theorem Yjx (a b:Nat):Int.tmod (a:Int) (b:Int)=((a % b:Nat):Int):=by
 rw[Int.tmod_eq_emod_of_nonneg (by omega)]; rfl
theorem at_eq {r:Rg} (h:rOK r) (hn:0 < r.1) {i:Nat} (hi:i <= 8):Z5p (r,(i:Int))=some ((rSlot r i:Nat):Int):=by
 obtain ⟨c,f,s,n⟩:=r;obtain ⟨h1,h2,h3,h4,h5,h6,h7⟩:=h;simp only at h1 h2 h3 h4 h5 h6 h7 hn;unfold Z5p;simp only;rw[bif_t (by simp; omega),wrapI (by omega) (by omega)];obtain ⟨c',rfl⟩:=Int.eq_ofNat_of_zero_le h1;obtain ⟨f',rfl⟩:=Int.eq_ofNat_of_zero_le h6;show some (Int.tmod (((f'+i:Nat)):Int) (c':Int))=_;rw[Yjx]; rfl
theorem Yif {r:Rg} (hn:0 < r.1) (i:Nat):rSlot r i < r.1.toNat:=Nat.mod_lt _ (by omega)
theorem Y9k (r:Rg):Z59 r=some (if rOK r then (rItems r,0) else ([],1)):=by
 unfold Z59;rw[Yg3];simp only[bS9];by_cases h:rOK r
 ·rw[bif_f (by simp[h]),if_pos h];unfold Z5l Z5m;simp only[bS9];have hr:=h;obtain ⟨h1,h2,h3,h4,h5,h6,h7⟩:=h;obtain ⟨n,hn⟩:=Int.eq_ofNat_of_zero_le h4
  have:=Yap (f:=Zal) n (fun k=>((n:Int),(k:Int),r,(List.range k).map fun i=>r.2.2.1.getD (rSlot r i) 0)) (.inr (r,rItems r)) (by
   intro k hk;unfold Zal Z5b;simp only;rw[bif_t (by simpa using hk),at_eq hr (by omega) (by omega)];simp only[bS9];have hs:=Yif (r:=r) (by omega) k;rw[bif_t (Y8t (by omega)),bif_t (Y74.2 (by simp; omega))];simp only[bS9];rw[bif_t (by rfl),wrapI (by omega) (by omega),Yk0,Y7v];rw[List.range_succ,List.map_append]; rfl) (by
   unfold Zal;simp only;rw[bif_f (by simp)];unfold rItems;rw[hn]; rfl) 0 (Nat.zero_le _)
  rw[hn];rw[show loop Zal ((n:Int),(0:Int),r,([]:List Int))=_ from this];simp only[bS9];rw[bif_t (by rfl)]
 ·rw[bif_t (by simp[h]),if_neg h]
theorem Y9l (r:Rg):(rItems r).length=r.2.2.2.toNat:=by simp[rItems]
def zeroR:Rg:=(0,0,[],0)
def pushed (r:Rg) (v:Int):Rg:=(r.1,r.2.1,r.2.2.1.set (rSlot r r.2.2.2.toNat) v,r.2.2.2+1)
def popped (r:Rg):Rg:=(r.1,(rSlot r 1:Nat),r.2.2.1,r.2.2.2 - 1)
def first (r:Rg):Int:=r.2.2.1.getD (rSlot r 0) 0
theorem Y41 (l:List Int) (h:l.length <= 4294967296):Z6d l=some l:=by
 unfold Z6d;by_cases hl:l.length=0
 ·obtain rfl:l=[]:=List.length_eq_zero_iff.1 hl;rw[bif_t (by rfl),bif_t (by rfl)];show amb (some []) (some [])=_;unfold amb;rw[if_pos rfl]
 ·rw[bif_f (by
   cases hb:Nat.beq l.length 0 with
   | false=>rfl
   | true=>exact absurd (eb9 hb) hl),bif_t (Y74.2 (by simpa using h))]
  rfl
theorem Yex (r:Rg) (v:Int):Z5h (r,v)=some (if rOK r then (if r.2.2.2=r.1 then (zeroR,5) else (pushed r v,0)) else (zeroR,1)):=by
 unfold Z5h;simp only;rw[Yg3];simp only[bS9];by_cases h:rOK r
 ·rw[bif_f (by simp[h]),if_pos h];by_cases hn:r.2.2.2=r.1
  ·rw[bif_t (by simpa using hn),if_pos hn]; rfl
  ·rw[bif_f (by simpa using hn),if_neg hn];have hr:=h;obtain ⟨h1,h2,h3,h4,h5,h6,h7⟩:=h;rw[Y41 _ (by omega)];simp only[bS9];unfold Z5q;simp only;obtain ⟨n,hn'⟩:=Int.eq_ofNat_of_zero_le h4;have ha:=at_eq hr (by omega) (i:=n) (by omega);unfold Z5p at ha;simp only at ha;rw[bif_t (by simp; omega)] at ha;rw[bif_t (by simp; omega),hn'];rw[oi9 ha];simp only[bS9];have hs:=Yif (r:=r) (by omega) n;rw[bif_t (Y8t (by omega)),wrapI (by omega) (by omega),Yk0];unfold pushed;rw[hn']; rfl
 ·rw[bif_t (by simp[h]),if_neg h]; rfl
theorem pop_eq (r:Rg):Z5f r=some (if rOK r then (if r.2.2.2=0 then (zeroR,0,4) else (popped r,first r,0)) else (zeroR,0,1)):=by
 unfold Z5f;rw[Yg3];simp only[bS9];by_cases h:rOK r
 ·rw[bif_f (by simp[h]),if_pos h];by_cases hn:r.2.2.2=0
  ·rw[bif_t (by simpa using hn),if_pos hn]; rfl
  ·rw[bif_f (by simpa using hn),if_neg hn];have hr:=h;obtain ⟨h1,h2,h3,h4,h5,h6,h7⟩:=h;have a0:=at_eq hr (by omega) (i:=0) (by omega);have a1:=at_eq hr (by omega) (i:=1) (by omega);rw[show Z5p (r,(0:Int))=_ from a0,show Z5p (r,(1:Int))=_ from a1];simp only[bS9];have hs:=Yif (r:=r) (by omega) 0;rw[bif_t (Y8t (by omega)),wrapI (by omega) (by omega),Yk0,Y7v];rfl
 ·rw[bif_t (by simp[h]),if_neg h]; rfl
theorem Yez {r:Rg} (h:rOK r) (hn:r.2.2.2 ≠ r.1) (v:Int):rOK (pushed r v):=by
 obtain ⟨h1,h2,h3,h4,h5,h6,h7⟩:=h;refine ⟨h1,h2,?_,?_,?_,h6,h7⟩
 ·simp only[pushed,List.length_set]; exact h3
 ·simp only[pushed]; omega
 ·simp only[pushed]; omega
theorem Yie {r:Rg} (hc:0 < r.1) {i j:Nat} (hi:i < r.1.toNat) (hj:j < r.1.toNat) (h:rSlot r i=rSlot r j):i=j:=by
 unfold rSlot at h;have h1:=Nat.div_add_mod (r.2.1.toNat+i) r.1.toNat;have h2:=Nat.div_add_mod (r.2.1.toNat+j) r.1.toNat;rw[h] at h1;generalize r.1.toNat=c at *;generalize (r.2.1.toNat+i) / c=p at *;generalize (r.2.1.toNat+j) / c=q at *;rcases Nat.lt_trichotomy p q with hpq | hpq | hpq
 ·have:c * p+c <= c * q:=by rw[<- Nat.mul_succ]; exact Nat.mul_le_mul_left c hpq
  omega
 ·subst hpq; omega
 ·have:c * q+c <= c * p:=by rw[<- Nat.mul_succ]; exact Nat.mul_le_mul_left c hpq
  omega
theorem Yey {r:Rg} (h:rOK r) (hn:r.2.2.2 ≠ r.1) (v:Int):rItems (pushed r v)=rItems r++[v]:=by
 obtain ⟨h1,h2,h3,h4,h5,h6,h7⟩:=h;unfold rItems;have e:(pushed r v).2.2.2.toNat=r.2.2.2.toNat+1:=by simp only[pushed]; omega
 rw[e,List.range_succ,List.map_append];congr 1
 ·refine List.map_congr_left fun i hi=>?_
  rw[List.mem_range] at hi;show (r.2.2.1.set (rSlot r r.2.2.2.toNat) v).getD (rSlot r i) 0=_
  have hne:rSlot r r.2.2.2.toNat ≠ rSlot r i:=fun e=>by
   have:=Yie (r:=r) (by omega) (by omega) (by omega) e;omega
  simp only[List.getD_eq_getElem?_getD,List.getElem?_set_ne hne]
 ·show [(r.2.2.1.set (rSlot r r.2.2.2.toNat) v).getD (rSlot r r.2.2.2.toNat) 0]=[v]
  have hs:=Yif (r:=r) (by omega) r.2.2.2.toNat;simp only[List.getD_eq_getElem?_getD,List.getElem?_set_self (show rSlot r r.2.2.2.toNat < r.2.2.1.length by omega),Option.getD_some]
theorem Yes {r:Rg} (h:rOK r) (hn:r.2.2.2 ≠ 0):rOK (popped r):=by
 obtain ⟨h1,h2,h3,h4,h5,h6,h7⟩:=h;have hs:=Yif (r:=r) (by omega) 1;refine ⟨h1,h2,h3,?_,?_,?_,?_⟩
 ·simp only[popped]; omega
 ·simp only[popped]; omega
 ·simp only[popped]; omega
 ·simp only[popped]; omega
theorem Yer {r:Rg} (h:rOK r) (hn:r.2.2.2 ≠ 0):rItems r=first r :: rItems (popped r):=by
 obtain ⟨h1,h2,h3,h4,h5,h6,h7⟩:=h;unfold rItems;have e:r.2.2.2.toNat=(popped r).2.2.2.toNat+1:=by simp only[popped]; omega
 rw[e,List.range_succ_eq_map,List.map_cons,List.map_map];congr 1;refine List.map_congr_left fun i _=>?_
 show r.2.2.1.getD (rSlot r (i+1)) 0=r.2.2.1.getD (rSlot (popped r) i) 0;congr 1;show (r.2.1.toNat+(i+1)) % r.1.toNat=(((r.2.1.toNat+1) % r.1.toNat:Nat)+i) % r.1.toNat;rw[Nat.mod_add_mod]; congr 1; omega
theorem new_eq (n:Int):Z5d n=some (if n < 0 \/ n > 8 then (zeroR,2) else ((n,0,List.replicate n.toNat 0,0),0)):=by
 unfold Z5d;by_cases h1:n < 0
 ·rw[bif_t (by simpa using h1),if_pos (.inl h1)]; rfl
 ·rw[bif_f (by simpa using h1)];by_cases h2:n > 8
  ·rw[bif_t (by simpa using h2),if_pos (.inr h2)]; rfl
  ·rw[bif_f (by simpa using h2),if_neg (by omega),bif_t (Ybz.2 (by omega))]; rfl
theorem new_ok {n:Int} (h1:0 <= n) (h2:n <= 8):rOK (n,0,List.replicate n.toNat 0,0):=by
 refine ⟨h1,h2,?_,?_,?_,?_,?_⟩ <;> simp <;> omega
abbrev Ch:=Int × (Bool × (Rg × (Int × (Int × (List W × List W)))))
abbrev Ou:=Int × (Int × (W × Int))
def zeroC:Ch:=(0,false,(0,0,[],0),0,0,[],[])
def zeroOu:Ou:=(0,0,(0,0,0),0)
def seqI (a:Int) (n:Nat):List Int:=(List.range n).map fun (i:Nat)=>a+(i:Int)
theorem Yhr (a:Int) (n:Nat):(seqI a n).length=n:=by simp[seqI]
theorem Yhq (a:Int) (n:Nat) (k:Nat) (h:k < (seqI a n).length):(seqI a n)[k]=a+(k:Int):=by simp[seqI]
theorem Yhu {l:List Int} {a:Int}:l=seqI a l.length ↔ ∀ k (h:k < l.length),l[k]=a+(k:Int):=by
 constructor
 ·intro h k hk;have h1:l[k]?=(seqI a l.length)[k]?:=by rw[<- h]
  rw[List.getElem?_eq_getElem hk,List.getElem?_eq_getElem (by rw[Yhr]; exact hk)] at h1;rw[oi9 h1,Yhq]
 ·intro h;apply List.ext_getElem
  ·rw[Yhr]
  ·intro k h1 h2;rw[h k h1,Yhq]
theorem Yd6 (l:List Int) (a b:Int) (hl:l.length <= 1000) (ha:0 <= a/\a <= 1048576) (hb:a <= b/\b <= 1048576):Zg (l,a,b)=some (decide (l=seqI a l.length/\(l.length:Int)=b - a)):=by
 have:=Yar (f:=Z9f) ((List.range l.length).map fun k=>decide (l.getD k 0 ≠ a+(k:Int))) (fun b=>b) (fun k=>(l,a,b,l,(l.length:Int),(k:Int))) (fun _=>.inl false) (.inr (l,a,b)) (by
  intro k hk;have hk':k < l.length:=by simpa using hk
  unfold Z9f;simp only;rw[bif_t (by simpa using hk'),bif_t (Y8t hk'),Yk0,getAtL _ hk',wrapI (n:=a+(k:Int)) (by omega) (by omega),wrapI (n:=(k:Int)+1) (by omega) (by omega)];have hd:l.getD k 0=l[k]:=by simp[List.getD,hk']
  rw[List.getElem_map,List.getElem_range,hd];by_cases h:l[k]=a+(k:Int)
  ·rw[bif_f (by simp[h]),if_neg (by simp[h])]; rfl
  ·rw[bif_t (by simp[h]),if_pos (by simp[h])]) (by
  unfold Z9f;simp only[List.length_map,List.length_range];rw[bif_f (by simp)])
 unfold Zg;simp only;rw[show loop Z9f (l,a,b,l,(l.length:Int),(0:Int))=_ from this];cases hf:((List.range l.length).map fun k=>decide (l.getD k 0 ≠ a+(k:Int))).findIdx? (fun b=>b) with
 | none =>
  rw[List.findIdx?_eq_none_iff] at hf
  have hs:l=seqI a l.length:=Yhu.2 (fun k hk=>by
   have:=hf (decide (l.getD k 0 ≠ a+(k:Int))) (List.mem_map.2 ⟨k,List.mem_range.2 hk,rfl⟩);have hd:l.getD k 0=l[k]:=by simp[List.getD,hk]
   rw[hd] at this;simpa using this)
  simp only[bS9];rw[wrapI (by omega) (by omega)];by_cases h:(l.length:Int)=b - a
  ·rw[dT9 ⟨hs,h⟩,beq_iff_eq.2 h]
  ·rw[dF9 (fun e=>h e.2),beq_eq_false_iff_ne.2 h]
 | some i =>
  obtain ⟨hi,hp,_⟩:=List.findIdx?_eq_some_iff_getElem.1 hf;have hi':i < l.length:=by simpa using hi
  refine decF (fun e=>?_);have hd:l.getD i 0=l[i]:=by simp[List.getD,hi']
  rw[List.getElem_map,List.getElem_range,hd] at hp;have:=Yhu.1 e.1 i hi';simp[this] at hp
def Yi2 (c:Ch):Prop:=if c.1 < 0 then c.2.1=false/\c.2.2.2.1=0/\c.2.2.2.2.2.1.length=0/\c.2.2.2.2.2.2.length=0 else
 if c.2.1=true then c.2.2.2.2.2.1.length=0/\c.2.2.2.2.2.2.length=0 else (c.2.2.2.2.2.1.length=0 \/ c.2.2.1.2.2.2=c.1)/\(c.2.2.2.2.2.2.length=0 \/ c.2.2.1.2.2.2=0)
instance (c:Ch):Decidable (Yi2 c):=by unfold Yi2; infer_instance
def chOK (c:Ch):Prop:=rOK c.2.2.1/\-1 <= c.1/\c.1 <= 3/\c.2.2.1.1=max c.1 0/\wOK c.2.2.2.2.2.1/\wOK c.2.2.2.2.2.2/\0 <= c.2.2.2.1/\c.2.2.2.1 <= 1048576/\0 <= c.2.2.2.2.1/\c.2.2.2.2.1 <= c.2.2.2.1 /\
 (rItems c.2.2.1=seqI c.2.2.2.2.1 (rItems c.2.2.1).length/\((rItems c.2.2.1).length:Int)=c.2.2.2.1 - c.2.2.2.2.1)/\Yi2 c
instance (c:Ch):Decidable (chOK c):=by unfold chOK; infer_instance
theorem beqI (a b:Int):(a == b)=decide (a=b):=by
 by_cases h:a=b
 ·rw[dT9 h,beq_iff_eq.2 h]
 ·rw[dF9 h,beq_eq_false_iff_ne.2 h]
theorem gt0 (n:Nat):decide ((n:Int) > 0)=!decide (n=0):=by
 cases n with
 | zero=>rfl
 | succ n=>simp
theorem Y33 (c:Ch) (h1:c.2.2.2.2.2.1.length < 4611686018427387904) (h2:c.2.2.2.2.2.2.length < 4611686018427387904):Za c=some (decide (chOK c)):=by
 unfold Za chOK;rw[Y9k];simp only[bS9];rcases (Classical.em (rOK c.2.2.1)).symm with a1 | a1
 ·rw[if_neg a1,bif_t (by rfl)]; exact decF (fun h=>a1 h.1)
 rw[if_pos a1,bif_f (by rfl),show Int.negSucc 0=(-1:Int) from rfl];by_cases a2:c.1 < -1
 ·rw[bif_t (dT9 a2)]; exact decF (by omega)
 rw[bif_f (dF9 a2)];by_cases a3:c.1 > 3
 ·rw[bif_t (dT9 a3)]; exact decF (by omega)
 rw[bif_f (dF9 a3)];rcases (Classical.em (c.2.2.1.1=max c.1 0)).symm with a4 | a4
 ·rw[bif_t (by simpa using a4)]; exact decF (fun h=>a4 h.2.2.2.1)
 rw[bif_f (by simpa using a4),Ykd _ h1];simp only[bS9];rcases (Classical.em (wOK c.2.2.2.2.2.1)).symm with a5 | a5
 ·rw[bif_t (by simpa using a5)]; exact decF (fun h=>a5 h.2.2.2.2.1)
 rw[bif_f (by simpa using a5),Ykd _ h2];simp only[bS9];rcases (Classical.em (wOK c.2.2.2.2.2.2)).symm with a6 | a6
 ·rw[bif_t (by simpa using a6)]; exact decF (fun h=>a6 h.2.2.2.2.2.1)
 rw[bif_f (by simpa using a6)];by_cases a7:c.2.2.2.1 < 0
 ·rw[bif_t (dT9 a7)]; exact decF (by omega)
 rw[bif_f (dF9 a7)];by_cases a8:c.2.2.2.1 > 1048576
 ·rw[bif_t (dT9 a8)]; exact decF (by omega)
 rw[bif_f (dF9 a8)];by_cases a9:c.2.2.2.2.1 < 0
 ·rw[bif_t (dT9 a9)]; exact decF (by omega)
 rw[bif_f (dF9 a9)];by_cases a10:c.2.2.2.2.1 > c.2.2.2.1
 ·rw[bif_t (dT9 a10)]; exact decF (by omega)
 have hil:=Y9l c.2.2.1;have hil8:(rItems c.2.2.1).length <= 8:=by obtain ⟨_,_,_,_,_,_⟩:=a1; omega
 rw[bif_f (dF9 a10),Yd6 _ _ _ (by omega) (by omega) (by omega)];simp only[bS9];rcases (Classical.em (rItems c.2.2.1=seqI c.2.2.2.2.1 (rItems c.2.2.1).length/\((rItems c.2.2.1).length:Int)=c.2.2.2.1 - c.2.2.2.2.1)).symm with a11 | a11
 ·rw[bif_t (by rw[dF9 a11]; rfl)]; exact decF (fun h=>a11 h.2.2.2.2.2.2.2.2.2.2.1)
 have hcnt:(((rItems c.2.2.1).length:Nat):Int)=c.2.2.1.2.2.2:=by obtain ⟨_,_,_,_,_,_⟩:=a1; omega
 rw[bif_f (by simpa using a11)]
 have done:∀ {q:Prop} [Decidable q] {b:Option Bool},(b=some (decide (Yi2 c)))->b=some (decide (rOK c.2.2.1/\-1 <= c.1/\c.1 <= 3/\c.2.2.1.1=max c.1 0/\wOK c.2.2.2.2.2.1/\wOK c.2.2.2.2.2.2/\0 <= c.2.2.2.1/\c.2.2.2.1 <= 1048576/\0 <= c.2.2.2.2.1/\c.2.2.2.2.1 <= c.2.2.2.1 /\
   (rItems c.2.2.1=seqI c.2.2.2.2.1 (rItems c.2.2.1).length/\((rItems c.2.2.1).length:Int)=c.2.2.2.1 - c.2.2.2.2.1)/\Yi2 c)):=by
  intro _ _ b hb;rw[hb];exact decE ⟨fun h=>⟨a1,by omega,by omega,a4,a5,a6,by omega,by omega,by omega,by omega,a11,h⟩,fun h=>h.2.2.2.2.2.2.2.2.2.2.2⟩
 refine done (q:=True) ?_;rw[gt0,gt0,hcnt];unfold Yi2;by_cases b1:c.1 < 0
 ·rw[bif_t (dT9 b1)];simp only[if_pos b1];cases c.2.1 with
  | true=>rfl
  | false =>
   by_cases b2:c.2.2.2.1=0
   ·rw[Bool.not_false,cond_true,bif_t (by simpa using b2)];by_cases b3:c.2.2.2.2.2.1.length=0 <;> by_cases b4:c.2.2.2.2.2.2.length=0 <;> simp[b2,b3,b4]
   ·rw[Bool.not_false,cond_true,bif_f (by simpa using b2)]; exact decF (fun h=>b2 h.2.1)
 ·rw[bif_f (dF9 b1)];simp only[if_neg b1];cases c.2.1 with
  | true =>
   simp only[if_true,cond_true];by_cases b3:c.2.2.2.2.2.1.length=0 <;> by_cases b4:c.2.2.2.2.2.2.length=0 <;> simp[b3,b4]
  | false =>
   have e5:(c.2.2.1.2.2.2 == c.1)=decide (c.2.2.1.2.2.2=c.1):=beqI _ _;have e6:(c.2.2.1.2.2.2 == 0)=decide (c.2.2.1.2.2.2=0):=beqI _ _;simp only[Bool.false_eq_true,if_false,cond_false,Bool.decide_and,Bool.decide_or,e5,e6];generalize decide (c.2.2.2.2.2.1.length=0)=x1;generalize decide (c.2.2.2.2.2.2.length=0)=x2;generalize decide (c.2.2.1.2.2.2=c.1)=x3;generalize decide (c.2.2.1.2.2.2=0)=x4;cases x1 <;> cases x2 <;> cases x3 <;> cases x4 <;> rfl
theorem neg1:Int.negSucc 0=(-1:Int):=rfl
def nobody:W:=(-1,0,0)
def otherP (l:List W) (g:Int):W:=match l.findIdx? (notG g) with | some i=>l.getD i zeroW | none=>nobody
theorem Ydu (l:List W) (c:Ch) (g:Int) (hl:wOK l) (hg:0 <= g):Zq (l,c,g)=some (otherP l g,c,g):=by
 unfold Zq otherP;have h64:=hl.2.1;rw[Ykj l g (by omega),if_pos hl,if_neg (by omega)];cases hf:l.findIdx? (notG g) with
 | none=>rfl
 | some i=>rfl
theorem Ydv {l:List W} {g:Int} (hl:wOK l):((otherP l g).1=-1/\otherP l g=nobody/\l.findIdx? (notG g)=none) \/ ((otherP l g).1 ≠ -1/\isW (otherP l g)/\otherP l g ∈ l/\∃ i,i < l.length/\l.findIdx? (notG g)=some i/\otherP l g=l.getD i zeroW):=by
 unfold otherP;cases hf:l.findIdx? (notG g) with
 | none=>exact .inl ⟨rfl,rfl,rfl⟩
 | some i =>
  obtain ⟨hi,_⟩:=List.findIdx?_eq_some_iff_getElem.1 hf;have he:l.getD i zeroW=l[i]:=by simp[List.getD,hi]
  have hm:l.getD i zeroW ∈ l:=by rw[he]; exact gm9 hi
  have hw:=hl.1 _ hm;exact .inr ⟨by have:=hw.1; simp only; omega,hw,hm,i,hi,rfl,rfl⟩
theorem Ykc {l:List W} (h:wOK l) (p:W->Bool):wOK (l.filter p):=⟨fun w hw=>h.1 w (List.mem_filter.1 hw).1,Nat.le_trans (List.length_filter_le _ _) h.2.1,List.Sublist.nodup (List.Sublist.map _ List.filter_sublist) h.2.2⟩
def leaveC (c:Ch) (g:Int):Ch:=(c.1,c.2.1,c.2.2.1,c.2.2.2.1,c.2.2.2.2.1,c.2.2.2.2.2.1.filter (notG g),c.2.2.2.2.2.2.filter (notG g))
theorem Ykk (c:Ch) (g k:Int) (h1:wOK c.2.2.2.2.2.1) (h2:wOK c.2.2.2.2.2.2) (hg:0 <= g):Zo (g,c,k)=some (leaveC c g,k):=by
 unfold Zo;have a1:=h1.2.1;have a2:=h2.2.1;simp only;rw[Yki _ _ (by omega),Yki _ _ (by omega),if_pos h1,if_pos h2,if_neg (by omega),if_neg (by omega)];rfl
theorem len1 {c:Ch} (h:chOK c):c.2.2.2.2.2.1.length <= 64:=h.2.2.2.2.1.2.1
theorem len2 {c:Ch} (h:chOK c):c.2.2.2.2.2.2.length <= 64:=h.2.2.2.2.2.1.2.1
theorem Y3u (c:Ch) (g:Int) (h1:c.2.2.2.2.2.1.length < 4611686018427387904) (h2:c.2.2.2.2.2.2.length < 4611686018427387904):Z2 (c,g)=some (if chOK c then (if g < 0 then (zeroC,1) else (leaveC c g,0)) else (zeroC,1)):=by
 unfold Z2;simp only;rw[Y33 c h1 h2];simp only[bS9];by_cases h:chOK c
 ·rw[dT9 h,if_pos h,bif_f (by rfl)];by_cases hg:g < 0
  ·rw[bif_t (dT9 hg),if_pos hg]; rfl
  ·rw[bif_f (dF9 hg),if_neg hg,Ykk c g g h.2.2.2.2.1 h.2.2.2.2.2.1 (by omega)]; rfl
 ·rw[dF9 h,if_neg h]; rfl
def closeC (c:Ch):Ch × List W × Bool:=if c.1 < 0 \/ c.2.1=true \/ c.2.2.2.2.2.1.length ≠ 0 then (c,[],true) else ((c.1,true,c.2.2.1,c.2.2.2.1,c.2.2.2.2.1,c.2.2.2.2.2.1,[]),c.2.2.2.2.2.2,false)
theorem Y42 (c:Ch) (h1:c.2.2.2.2.2.1.length < 4611686018427387904) (h2:c.2.2.2.2.2.2.length < 4611686018427387904):Z0 c=some (if chOK c then ((closeC c).1,(closeC c).2.1,(closeC c).2.2,0) else (zeroC,[],false,1)):=by
 unfold Z0;rw[Y33 c h1 h2];simp only[bS9];by_cases h:chOK c
 ·rw[dT9 h,if_pos h,bif_f (by rfl)];unfold closeC;by_cases b1:c.1 < 0
  ·rw[bif_t (dT9 b1),if_pos (.inl b1)]
  rw[bif_f (dF9 b1)];cases b2:c.2.1 with
  | true=>rw[cond_true,if_pos (.inr (.inl rfl))]
  | false =>
   rw[cond_false,gt0];by_cases b3:c.2.2.2.2.2.1.length=0
   ·rw[dT9 b3,if_neg (by simp[b1,b3])]; rfl
   ·rw[dF9 b3,if_pos (.inr (.inr b3))]; rfl
 ·rw[dF9 h,if_neg h]; rfl
def readyC (c:Ch) (send:Bool) (g:Int):Bool:=if c.1 < 0 then false else if c.2.1=true then true else if send=true then decide (c.2.2.1.2.2.2 ≠ c.2.2.1.1) || (c.2.2.2.2.2.2.findIdx? (notG g)).isSome else decide (c.2.2.1.2.2.2 > 0) || (c.2.2.2.2.2.1.findIdx? (notG g)).isSome
theorem Ydw {l:List W} (g:Int) (hl:wOK l):((otherP l g).1 != -1)=(l.findIdx? (notG g)).isSome:=by
 rcases Ydv (g:=g) hl with ⟨h1,_,h3⟩ | ⟨h1,_,_,i,_,h3,_⟩
 ·rw[h3,h1]; rfl
 ·rw[h3]; simpa using h1
theorem Yfh (c:Ch) (s:Bool) (g:Int) (h1:c.2.2.2.2.2.1.length < 4611686018427387904) (h2:c.2.2.2.2.2.2.length < 4611686018427387904):Z6 (c,s,g)=some (if chOK c then (if g < 0 then (false,1) else (readyC c s g,0)) else (false,1)):=by
 unfold Z6 Zl Zi;simp only;rw[Y33 c h1 h2];simp only[bS9];by_cases h:chOK c
 ·rw[dT9 h,if_pos h,bif_f (by rfl)];by_cases hg:g < 0
  ·rw[bif_t (dT9 hg),if_pos hg]
  rw[bif_f (dF9 hg),if_neg hg];unfold readyC;by_cases b1:c.1 < 0
  ·rw[bif_t (dT9 b1),if_pos b1]
  rw[bif_f (dF9 b1),if_neg b1];cases b2:c.2.1 with
  | true=>rw[cond_true,if_pos rfl]
  | false =>
   rw[cond_false,if_neg (by simp)];cases s with
   | true =>
    rw[cond_true,if_pos rfl];by_cases b3:c.2.2.1.2.2.2=c.2.2.1.1
    ·rw[bif_f (by simpa using b3),Ydu _ _ _ h.2.2.2.2.2.1 (by omega)];simp only[bS9];rw[neg1,Ydw _ h.2.2.2.2.2.1,dF9 (by simpa using b3)]; rfl
    ·rw[bif_t (by simpa using b3),dT9 b3]; rfl
   | false =>
    rw[cond_false,if_neg (by simp)];by_cases b3:c.2.2.1.2.2.2 > 0
    ·rw[bif_t (dT9 b3),dT9 b3]; rfl
    ·rw[bif_f (dF9 b3),dF9 b3,Ydu _ _ _ h.2.2.2.2.1 (by omega)];simp only[bS9];rw[neg1,Ydw _ h.2.2.2.2.1]; rfl
 ·rw[dF9 h,if_neg h]; rfl
structure SameC (a b:Ch):Prop where
 cap:a.1=b.1
 closed:a.2.1=b.2.1
 sent:a.2.2.2.1=b.2.2.2.1
 got:a.2.2.2.2.1=b.2.2.2.2.1
 sends:a.2.2.2.2.2.1=b.2.2.2.2.2.1
 recvs:a.2.2.2.2.2.2=b.2.2.2.2.2.2
 oka:rOK a.2.2.1
 okb:rOK b.2.2.1
 bcap:a.2.2.1.1=b.2.2.1.1
 items:rItems a.2.2.1=rItems b.2.2.1
def newC (n:Int):Ch:=(n,false,(max n 0,0,List.replicate (max n 0).toNat 0,0),0,0,[],[])
theorem Y44 (n:Int):Z4 n=some (if n < -1 \/ n > 3 then (zeroC,2) else (newC n,0)):=by
 unfold Z4;by_cases h1:n < -1
 ·rw[neg1,bif_t (dT9 h1),if_pos (.inl h1)]; rfl
 by_cases h2:n > 3
 ·rw[neg1,bif_f (dF9 h1),bif_t (dT9 h2),if_pos (.inr h2)]; rfl
 rw[neg1,bif_f (dF9 h1),bif_f (dF9 h2),if_neg (by omega),new_eq,if_neg (by omega)];rfl
theorem Ycm (n:Int) (h2:n <= 3):rOK (newC n).2.2.1:=new_ok (by omega) (by omega)
def passC (c:Ch):Ch:=(c.1,c.2.1,c.2.2.1,c.2.2.2.1+1,c.2.2.2.2.1+1,c.2.2.2.2.2.1,c.2.2.2.2.2.2)
def pushC (c:Ch):Ch:=(c.1,c.2.1,pushed c.2.2.1 c.2.2.2.1,c.2.2.2.1+1,c.2.2.2.2.1,c.2.2.2.2.2.1,c.2.2.2.2.2.2)
def popC (c:Ch):Ch:=(c.1,c.2.1,popped c.2.2.1,c.2.2.2.1,c.2.2.2.2.1+1,c.2.2.2.2.2.1,c.2.2.2.2.2.2)
theorem Yea (c:Ch) (k:Int) (h1:0 <= c.2.2.2.1/\c.2.2.2.1 <= 1048576) (h2:0 <= c.2.2.2.2.1/\c.2.2.2.2.1 <= 1048576):Zs (c,k)=some (c.2.2.2.1,passC c,k):=by
 unfold Zs;simp only;rw[wrapI (by omega) (by omega),wrapI (by omega) (by omega)]; rfl
theorem Yko (c:Ch) (k:Int) (h:rOK c.2.2.1) (hf:c.2.2.1.2.2.2 ≠ c.2.2.1.1) (h1:0 <= c.2.2.2.1/\c.2.2.2.1 <= 1048576):Zw (c,k)=some (c.2.2.2.1,pushC c,k):=by
 unfold Zw;simp only;rw[Yex,if_pos h,if_neg hf];simp only[bS9];rw[wrapI (by omega) (by omega)]; rfl
theorem Ykm (c:Ch) (k:Int) (h:rOK c.2.2.1) (hf:c.2.2.1.2.2.2 ≠ 0) (h1:0 <= c.2.2.2.2.1/\c.2.2.2.2.1 <= 1048576):Zu (c,k)=some (first c.2.2.1,popC c,k):=by
 unfold Zu;simp only;rw[pop_eq,if_pos h,if_neg hf];simp only[bS9];rw[wrapI (by omega) (by omega)]; rfl
def pushW (l:List W) (w:W):List W × Int:=if keyW w ∈ l.map keyW then ([],7) else if l.length=64 then ([],5) else (l++[w],0)
theorem Yev (l:List W) (w:W) (hl:wOK l) (hw:isW w):Z95 (l,w)=some (pushW l w):=by
 have:=hl.2.1;rw[Ykn l w (by omega),if_pos hl,if_pos hw]; rfl
def outS (c:Ch) (w:W):Ch × Ou × Int:=if (pushW c.2.2.2.2.2.1 w).2=0 then ((c.1,c.2.1,c.2.2.1,c.2.2.2.1,c.2.2.2.2.1,(pushW c.2.2.2.2.2.1 w).1,c.2.2.2.2.2.2),(0,0,nobody,0),0) else (zeroC,zeroOu,(pushW c.2.2.2.2.2.1 w).2)
def outR (c:Ch) (w:W):Ch × Ou × Int:=if (pushW c.2.2.2.2.2.2 w).2=0 then ((c.1,c.2.1,c.2.2.1,c.2.2.2.1,c.2.2.2.2.1,c.2.2.2.2.2.1,(pushW c.2.2.2.2.2.2 w).1),(0,0,nobody,0),0) else (zeroC,zeroOu,(pushW c.2.2.2.2.2.2 w).2)
def sendC (c:Ch) (w:W):Ch × Ou × Int :=
 if c.1 < 0 then (c,(0,0,nobody,0),0) else if c.2.1=true then (c,(3,0,nobody,0),0) else
 match c.2.2.2.2.2.2.findIdx? (notG w.1) with
 | some i=>if c.2.2.2.1=1048576 then (zeroC,zeroOu,5) else (passC (leaveC c (c.2.2.2.2.2.2.getD i zeroW).1),(1,c.2.2.2.1,c.2.2.2.2.2.2.getD i zeroW,c.2.2.2.1),0)
 | none=>if c.2.2.1.2.2.2=c.2.2.1.1 then outS c w else if c.2.2.2.1=1048576 then (zeroC,zeroOu,5) else (pushC c,(1,c.2.2.2.1,nobody,0),0)
theorem Y9j (w:W):Ze w=some (decide (isW w)):=by
 simp only[Ze,isW,cond_eq_ite,decide_eq_true_eq]
 repeat' split
 all_goals first | exact decF (by omega) | exact decT (by omega) | exact decE (by omega)
theorem Yhl (c:Ch) (w:W) (h1:c.2.2.2.2.2.1.length < 4611686018427387904) (h2:c.2.2.2.2.2.2.length < 4611686018427387904):Zc (c,w)=some (if chOK c/\isW w then sendC c w else (zeroC,zeroOu,1)):=by
 unfold Zc Zl Zi;simp only;rw[Y33 c h1 h2,Y9j];simp only[bS9];rcases (Classical.em (chOK c)).symm with h | h
 ·rw[dF9 h,if_neg (fun e=>h e.1)]; rfl
 rw[dT9 h,bif_f (by rfl)];rcases (Classical.em (isW w)).symm with hw | hw
 ·rw[dF9 hw,if_neg (fun e=>hw e.2)]; rfl
 rw[dT9 hw,bif_f (by rfl),if_pos ⟨h,hw⟩];obtain ⟨a1,a2,a3,a4,a5,a6,a7,a8,a9,a10,a11,a12⟩:=h;rw[Ydu _ _ _ a6 hw.1];simp only[bS9];unfold sendC;by_cases b1:c.1 < 0
 ·rw[bif_t (dT9 b1),if_pos b1]; rfl
 rw[bif_f (dF9 b1),if_neg b1];cases b2:c.2.1 with
 | true=>rw[cond_true,if_pos rfl]; rfl
 | false =>
  rw[cond_false,if_neg (by simp)];rcases Ydv (g:=w.1) a6 with ⟨e1,e2,e3⟩ | ⟨e1,e2,e3,i,e4,e5,e6⟩
  ·rw[e3,e2,bif_f (by rfl)];simp only;by_cases b3:c.2.2.1.2.2.2=c.2.2.1.1
   ·rw[if_pos b3,bif_f (by simpa using b3),bif_f (by rfl),bif_f (by simpa using b3),Yev _ _ a5 hw];simp only[bS9];unfold outS;by_cases b4:(pushW c.2.2.2.2.2.1 w).2=0
    ·rw[bif_f (by simpa using b4),if_pos b4,b2]
    ·rw[bif_t (by simpa using b4),if_neg b4]; rfl
   ·rw[if_neg b3,bif_t (by simpa using b3)];by_cases b4:c.2.2.2.1=1048576
    ·rw[bif_t (by simpa using b4),if_pos b4]; rfl
    ·rw[bif_f (by simpa using b4),if_neg b4,bif_f (by rfl),bif_t (by simpa using b3),Yko _ _ a1 b3 ⟨a7,a8⟩];rfl
  ·rw[e5,bif_t (by simpa using e1)];simp only;by_cases b4:c.2.2.2.1=1048576
   ·rw[bif_t (by simpa using b4),if_pos b4]; rfl
   ·rw[bif_f (by simpa using b4),if_neg b4,bif_t (by simpa using e1),Ykk _ _ _ a5 a6 e2.1];simp only[bS9];rw[Yea (leaveC c (otherP c.2.2.2.2.2.2 w.1).1) w.1 ⟨a7,a8⟩ (show 0 <= c.2.2.2.2.1/\c.2.2.2.2.1 <= 1048576 by omega),e6];rfl
def recvC (c:Ch) (w:W):Ch × Ou × Int :=
 match c.2.2.2.2.2.1.findIdx? (notG w.1) with
 | some i=>if c.2.2.2.1=1048576 then (zeroC,zeroOu,5) else
  if c.2.2.1.2.2.2 > 0 then (pushC (popC (leaveC c (c.2.2.2.2.2.1.getD i zeroW).1)),(1,first c.2.2.1,c.2.2.2.2.2.1.getD i zeroW,c.2.2.2.1),0)
  else (passC (leaveC c (c.2.2.2.2.2.1.getD i zeroW).1),(1,c.2.2.2.1,c.2.2.2.2.2.1.getD i zeroW,c.2.2.2.1),0)
 | none=>if c.1 < 0 then (c,(0,0,nobody,0),0) else if c.2.2.1.2.2.2 > 0 then (popC c,(1,first c.2.2.1,nobody,0),0) else if c.2.1=true then (c,(2,0,nobody,0),0) else outR c w
theorem Yfl (c:Ch) (w:W) (h1:c.2.2.2.2.2.1.length < 4611686018427387904) (h2:c.2.2.2.2.2.2.length < 4611686018427387904):Z8 (c,w)=some (if chOK c/\isW w then recvC c w else (zeroC,zeroOu,1)):=by
 unfold Z8 Zl;simp only;rw[Y33 c h1 h2,Y9j];simp only[bS9];rcases (Classical.em (chOK c)).symm with h | h
 ·rw[dF9 h,if_neg (fun e=>h e.1)]; rfl
 rw[dT9 h,bif_f (by rfl)];rcases (Classical.em (isW w)).symm with hw | hw
 ·rw[dF9 hw,if_neg (fun e=>hw e.2)]; rfl
 rw[dT9 hw,bif_f (by rfl),if_pos ⟨h,hw⟩];have hh:=h;obtain ⟨a1,a2,a3,a4,a5,a6,a7,a8,a9,a10,a11,a12⟩:=h;rw[Ydu _ _ _ a5 hw.1];simp only[bS9];unfold recvC
 have hcnt:c.2.2.1.2.2.2=c.2.2.2.1 - c.2.2.2.2.1:=by
  have:=Y9l c.2.2.1;have:=a11.2;obtain ⟨_,_,_,_,_,_⟩:=a1; omega
 rcases Ydv (g:=w.1) a5 with ⟨e1,e2,e3⟩ | ⟨e1,e2,e3,i,e4,e5,e6⟩
 ·rw[e3,e2,bif_f (by rfl)];simp only;by_cases b1:c.1 < 0
  ·rw[bif_t (dT9 b1),if_pos b1]
  rw[bif_f (dF9 b1),if_neg b1];by_cases b3:c.2.2.1.2.2.2 > 0
  ·rw[bif_t (dT9 b3),if_pos b3,Ykm _ _ a1 (by omega) ⟨a9,by omega⟩];simp only[bS9];rw[bif_f (by rfl)]
  ·rw[bif_f (dF9 b3),if_neg b3,bif_f (by rfl)];cases b2:c.2.1 with
   | true=>rw[cond_true,if_pos rfl]
   | false =>
    rw[cond_false,if_neg (by simp),Yev _ _ a6 hw];simp only[bS9];unfold outR;by_cases b4:(pushW c.2.2.2.2.2.2 w).2=0
    ·rw[bif_f (by simpa using b4),if_pos b4]; rw[b2]
    ·rw[bif_t (by simpa using b4),if_neg b4]; rfl
 ·rw[e5,bif_t (by simpa using e1)];simp only;have hne:c.2.2.2.2.2.1.length ≠ 0:=by omega
  have hcap:¬ c.1 < 0:=by
   intro e;unfold Yi2 at a12;rw[if_pos e] at a12;exact hne a12.2.2.1
  by_cases b4:c.2.2.2.1=1048576
  ·rw[bif_t (by simpa using b4),if_pos b4]; rfl
  ·rw[bif_f (by simpa using b4),if_neg b4,Ykk _ _ _ a5 a6 e2.1];simp only[bS9];rw[bif_f (show decide ((leaveC c (otherP c.2.2.2.2.2.1 w.1).1).1 < 0)=false from dF9 hcap)];by_cases b3:c.2.2.1.2.2.2 > 0
   ·rw[bif_t (show decide ((leaveC c (otherP c.2.2.2.2.2.1 w.1).1).2.2.1.2.2.2 > 0)=true from dT9 b3),if_pos b3,Ykm (leaveC c (otherP c.2.2.2.2.2.1 w.1).1) w.1 (show rOK c.2.2.1 from a1) (show c.2.2.1.2.2.2 ≠ 0 by omega) (show 0 <= c.2.2.2.2.1/\c.2.2.2.2.1 <= 1048576 by omega)];simp only[bS9];rw[bif_t (by simpa using e1),Yko (popC (leaveC c (otherP c.2.2.2.2.2.1 w.1).1)) w.1 (show rOK (popped c.2.2.1) from Yes a1 (by omega)) (show c.2.2.1.2.2.2 - 1 ≠ c.2.2.1.1 by have:=a1.2.2.2.2.1; omega) ⟨a7,a8⟩,e6];rfl
   ·rw[bif_f (show decide ((leaveC c (otherP c.2.2.2.2.2.1 w.1).1).2.2.1.2.2.2 > 0)=false from dF9 b3),if_neg b3,bif_t (by simpa using e1),Yea (leaveC c (otherP c.2.2.2.2.2.1 w.1).1) w.1 ⟨a7,a8⟩ (show 0 <= c.2.2.2.2.1/\c.2.2.2.2.1 <= 1048576 by omega),e6];rfl
theorem Yhs (a:Int) (n:Nat):seqI a n++[a+(n:Int)]=seqI a (n+1):=by
 unfold seqI;rw[List.range_succ,List.map_append]; rfl
theorem Yhp (a:Int) (n:Nat):seqI a (n+1)=a :: seqI (a+1) n:=by
 unfold seqI;rw[List.range_succ_eq_map,List.map_cons,List.map_map];congr 1
 ·simp
 ·refine List.map_congr_left fun i _=>?_
  simp; omega
abbrev Lk:=Bool × List W
def lOK (l:Lk):Prop:=wOK l.2/\(l.1=true \/ l.2.length=0)
instance (l:Lk):Decidable (lOK l):=by unfold lOK; infer_instance
theorem Y9u (l:Lk) (hl:l.2.length < 4611686018427387904):Z1g l=some (decide (lOK l)):=by
 unfold Z1g;rw[Ykd _ hl];simp only[bS9];by_cases h:wOK l.2
 ·rw[bif_t (by simpa using h)];cases hb:l.1 with
  | true=>exact decT ⟨h,.inl hb⟩
  | false =>
   simp only[cond_false];by_cases h0:l.2.length=0
   ·rw[h0]; exact decT ⟨h,.inr h0⟩
   ·rw[show ((l.2.length:Int) == 0)=false from beq_eq_false_iff_ne.2 (by omega)];exact decF fun h2=>h2.2.elim (fun e=>by rw[hb] at e; cases e) h0
 ·rw[bif_f (by simpa using h)];exact decF fun h2=>h h2.1
def pushL (l:List W) (w:W):List W × Int:=if wOK l then (if isW w then (if keyW w ∈ l.map keyW then ([],7) else if l.length=64 then ([],5) else (l++[w],0)) else ([],1)) else ([],1)
theorem Yjo (l:Lk) (w:W) (hl:l.2.length < 4611686018427387904):Z1i (l,w)=some (if lOK l/\isW w then (if l.1=false then ((true,[]),true,0) else if (pushL l.2 w).2=0 then ((true,(pushL l.2 w).1),false,0) else ((false,[]),false,(pushL l.2 w).2)) else ((false,[]),false,1)):=by
 unfold Z1i Z1k;simp only;rw[Ykn _ _ hl,Y9u _ hl];simp only[bS9];by_cases h:lOK l
 ·have hw:=h.1;rw[bif_f (by simpa using h)];by_cases h2:isW w
  ·rw[if_pos (show lOK l/\isW w from ⟨h,h2⟩)];unfold pushL;rw[if_pos hw,if_pos h2];by_cases h3:keyW w ∈ l.2.map keyW
   ·rw[if_pos h3];cases hb:l.1 <;> rfl
   ·rw[if_neg h3];by_cases h4:l.2.length=64
    ·rw[if_pos h4];cases hb:l.1 <;> rfl
    ·rw[if_neg h4];cases hb:l.1 <;> rfl
  ·rw[if_neg (show ¬ (lOK l/\isW w) from fun e=>h2 e.2),if_pos hw,if_neg h2];rfl
 ·rw[bif_t (by simpa using h),if_neg (show ¬ (lOK l/\isW w) from fun e=>h e.1)]
def given:List W->Lk × W × Bool
 | []=>((false,[]),zeroW,false)
 | w :: t=>((true,t),w,true)
theorem Y88 (l:Lk) (hl:l.2.length < 4611686018427387904):Z1e l=some (if lOK l then (if l.1=false then ((false,[]),zeroW,false,6) else ((given l.2).1,(given l.2).2.1,(given l.2).2.2,0)) else ((false,[]),zeroW,false,1)):=by
 unfold Z1e Z1k;rw[Y9u _ hl];simp only[bS9];by_cases h:lOK l
 ·rw[bif_f (by simpa using h),if_pos h];cases hb:l.1 with
  | false=>rfl
  | true =>
   rw[bif_f (by rfl),if_neg (by simp)];cases hq:l.2 with
   | nil=>rfl
   | cons w t =>
    rw[bif_f (by simp; omega),bif_t (sub3L.2 (by simp; omega)),bif_t (inbL.2 (by simp))];have:cut (w :: t) (toN 1) (toN ((w :: t).length:Int) - toN 1)=t:=by simp[cut,toN]
    rw[this]; rfl
 ·rw[bif_t (by simpa using h),if_neg h]; rfl
abbrev On:=Int × (Int × List W)
def zeroO:On:=(0,0,[])
def oOK (o:On):Prop:=0 <= o.2.1/\wOK o.2.2/\((o.1=1/\∀ w ∈ o.2.2,w.1 ≠ o.2.1) \/ ((o.1=0 \/ o.1=2)/\o.2.1=0/\o.2.2.length=0))
instance (o:On):Decidable (oOK o):=by unfold oOK; infer_instance
theorem flen {l:List W} {g:Int}:((((l.filter (notG g)).length:Nat):Int) == ((l.length:Nat):Int))=decide (∀ w ∈ l,w.1 ≠ g):=by
 have h:(l.filter (notG g)).length=l.length ↔ ∀ w ∈ l,w.1 ≠ g:=by
  rw[List.length_filter_eq_length_iff];constructor
  ·intro h w hw; have:=h w hw; unfold notG at this; simpa using this
  ·intro h w hw; have:=h w hw; unfold notG; simpa using this
 by_cases e:(l.filter (notG g)).length=l.length
 ·rw[dT9 (h.1 e)]; simp[e]
 ·rw[dF9 (fun q=>e (h.2 q))]; simp; omega
theorem Yd7 (o:On) (hl:o.2.2.length < 4611686018427387904):Z3z o=some (decide (oOK o)):=by
 unfold Z3z oOK;rw[Ykd _ hl];simp only[bS9];by_cases h1:o.2.1 < 0
 ·rw[bif_t (by simpa using h1)]; exact decF (by omega)
 ·rw[bif_f (by simpa using h1)];by_cases h2:wOK o.2.2
  ·rw[bif_f (by simpa using h2)];by_cases h3:o.1=1
   ·rw[bif_t (by simpa using h3),Yki _ _ hl,if_pos h2,if_neg h1];simp only[bS9];rw[flen];exact decE ⟨fun h=>⟨by omega,h2,.inl ⟨h3,h⟩⟩,fun h=>h.2.2.elim (·.2) (fun h=>by omega)⟩
   ·rw[bif_f (by simpa using h3)]
    have hz:((((o.2.2.length:Nat):Int)) == 0)=decide (o.2.2.length=0):=by
     by_cases e:o.2.2.length=0
     ·rw[dT9 e,e]; rfl
     ·rw[dF9 e]; simp; exact fun h=>e (by simp[h])
    by_cases h4:o.1=0
    ·rw[bif_t (by simpa using h4)];by_cases h5:o.2.1=0
     ·rw[bif_t (by simpa using h5),hz]; exact decE ⟨fun h=>⟨by omega,h2,.inr ⟨.inl h4,h5,h⟩⟩,fun h=>h.2.2.elim (fun h=>by omega) (fun h=>h.2.2)⟩
     ·rw[bif_f (by simpa using h5)]; exact decF (fun h=>h.2.2.elim (fun h=>by omega) (fun h=>h5 h.2.1))
    ·rw[bif_f (by simpa using h4)];by_cases h6:o.1=2
     ·rw[bif_t (by simpa using h6)];by_cases h5:o.2.1=0
      ·rw[bif_t (by simpa using h5),hz]; exact decE ⟨fun h=>⟨by omega,h2,.inr ⟨.inr h6,h5,h⟩⟩,fun h=>h.2.2.elim (fun h=>by omega) (fun h=>h.2.2)⟩
      ·rw[bif_f (by simpa using h5)]; exact decF (fun h=>h.2.2.elim (fun h=>by omega) (fun h=>h5 h.2.1))
     ·rw[bif_f (by simpa using h6)]; exact decF (fun h=>h.2.2.elim (fun h=>by omega) (fun h=>by omega))
  ·rw[bif_t (by simpa using h2)]; exact decF (fun h=>h2 h.2.1)
def done (o:On) (w:W):On × Int × Int:=if o.1=0 then ((1,w.1,[]),0,0) else if o.1=2 then (o,2,0) else if o.2.1=w.1 then (zeroO,0,6) else if (pushL o.2.2 w).2=0 then ((o.1,o.2.1,(pushL o.2.2 w).1),1,0) else (zeroO,0,(pushL o.2.2 w).2)
theorem do_eq (o:On) (w:W) (hl:o.2.2.length < 4611686018427387904):Z3v (o,w)=some (if oOK o/\isW w then done o w else (zeroO,0,1)):=by
 unfold Z3v;rw[Yd7 _ hl];simp only[bS9];by_cases h:oOK o
 ·rw[bif_f (by simpa using h)];by_cases h1:w.1 < 0
  ·rw[bif_t (by simpa using h1),if_neg (fun e=>by have:=e.2.1; omega)]; rfl
  rw[bif_f (by simpa using h1)];by_cases h2:w.2.1 < 0
  ·rw[bif_t (by simpa using h2),if_neg (fun e=>by have:=e.2.2.1; omega)]; rfl
  rw[bif_f (by simpa using h2)];by_cases h3:w.2.2 < 0
  ·rw[bif_t (by simpa using h3),if_neg (fun e=>by have:=e.2.2.2; omega)]; rfl
  rw[bif_f (by simpa using h3),if_pos ⟨h,by omega,by omega,by omega⟩];unfold done;by_cases h4:o.1=0
  ·rw[bif_t (by simpa using h4),if_pos h4]; rfl
  rw[bif_f (by simpa using h4),if_neg h4];by_cases h5:o.1=1
  ·rw[bif_t (by simpa using h5),if_neg (by omega)];unfold Z45;simp only;by_cases h6:o.2.1=w.1
   ·rw[bif_t (by simpa using h6),if_pos h6]; rfl
   ·rw[bif_f (by simpa using h6),if_neg h6,Ykn _ _ hl];show (Option.bind (Option.bind (some (pushL o.2.2 w)) _) _)=_;simp only[bS9];by_cases h7:(pushL o.2.2 w).2=0
    ·rw[bif_f (by simpa using h7),if_pos h7]; rfl
    ·rw[bif_t (by simpa using h7),if_neg h7]; rfl
  ·have h6:o.1=2:=by
    rcases h.2.2 with e | e
    ·exact absurd e.1 h5
    ·omega
   rw[bif_f (by simpa using h5),bif_t (by simpa using h6),if_pos h6]; rfl
 ·rw[bif_t (by simpa using h),if_neg (fun e=>h e.1)]; rfl
def ended (o:On) (g:Int):On × List W × Int:=if o.1=1/\o.2.1=g then ((2,0,[]),o.2.2,0) else (zeroO,[],6)
theorem end_eq (o:On) (g:Int) (hl:o.2.2.length < 4611686018427387904):Z3x (o,g)=some (if oOK o/\0 <= g then ended o g else (zeroO,[],1)):=by
 unfold Z3x;rw[Yd7 _ hl];simp only[bS9];by_cases h:oOK o
 ·rw[bif_f (by simpa using h)];by_cases h1:g < 0
  ·rw[bif_t (by simpa using h1),if_neg (by omega)]; rfl
  rw[bif_f (by simpa using h1),if_pos ⟨h,by omega⟩];unfold ended;by_cases h2:o.1=1
  ·rw[bif_f (by simpa using h2)];by_cases h3:o.2.1=g
   ·rw[bif_f (by simpa using h3),if_pos ⟨h2,h3⟩]
   ·rw[bif_t (by simpa using h3),if_neg (fun e=>h3 e.2)]; rfl
  ·rw[bif_t (by simpa using h2),if_neg (fun e=>h2 e.1)]; rfl
 ·rw[bif_t (by simpa using h),if_neg (fun e=>h e.1)]; rfl
end Go.Proofs.YtifbgkikkiallaaGreat.VX.VxZ_Z

