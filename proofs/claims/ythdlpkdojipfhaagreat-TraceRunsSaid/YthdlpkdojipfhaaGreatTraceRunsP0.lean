/- Laid for the law TraceRuns. -/
import Derived.Test.YthdlpkdojipfhaaGreatTraceRunsE15
import Derived.Test.YthdlpkdojipfhaaGreatTraceRunsE14
import Derived.Test.YthdlpkdojipfhaaGreatTraceRunsF1
set_option linter.unusedVariables false
set_option linter.unusedSimpArgs false
namespace Go.Proofs.YthdlpkdojipfhaaGreat.VX
theorem wrapI {n:Int} (h1:-9223372036854775808 ≤ n) (h2:n < 9223372036854775808):IntKind.wrap .i64 n=n:=by
 unfold IntKind.wrap;show (if (true && decide (n % 18446744073709551616 ≥ 9223372036854775808))=true then n % 18446744073709551616 - 18446744073709551616 else n % 18446744073709551616)=n;split
 ·rename_i h; simp at h; omega
 ·rename_i h; simp at h; omega
theorem Y7a {α:Type} (z:α):∀ (l:List α) (n:Nat),getAt z l n=l.getD n z
 | [],n=>by cases n <;> rfl
 | a :: l,0=>rfl
 | a :: l,n+1=>by
  show getAt z l n=_;rw [Y7a z l n]; rfl
theorem getAtL {α:Type} (z:α) {l:List α} {n:Nat} (h:n < l.length):getAt z l n=l[n]:=by rw [Y7a]; simp [List.getD,h]
theorem inbL {i:Int} {n:Nat}:inb i n=true ↔ 0 ≤ i∧i < n:=by unfold inb; simp
theorem Y82 {i n:Nat} (h:i < n):inb (i:Int) n=true:=by rw [inbL]; omega
theorem Yif (i:Nat):toN (i:Int)=i:=rfl
theorem Y6i {n:Nat}:fits n=true ↔ n ≤ 4294967296:=by unfold fits; simp
theorem Yaz {n c:Int}:mkOK n c=true ↔ 0 ≤ n∧n ≤ c∧c.toNat ≤ 4294967296:=by
 unfold mkOK toN; simp [Y6i]
theorem sub3L {l h:Int} {n:Nat}:sub3 l h n=true ↔ 0 ≤ l∧l ≤ h∧h ≤ n:=by unfold sub3; simp
theorem Y9w {X Y:Type} {f:X→Option (X ⊕ Y)} (I:X→Prop) (Q:Y→Prop) (m:X→Nat) (h:∀ x,I x→(∃ x',f x=some (.inl x')∧I x'∧m x' < m x) ∨ (∃ y,f x=some (.inr y)∧Q y)) :
  ∀ x,I x→∃ y,loop f x=some y∧Q y:=by
 have:∀ n x,m x ≤ n→I x→∃ y,loop f x=some y∧Q y:=by
  intro n;induction n with
  | zero =>
   intro x hm hI;rcases h x hI with ⟨x',_,_,h3⟩ | ⟨y,h1,h2⟩
   ·omega
   ·exact ⟨y,by rw [Y9s,h1],h2⟩
  | succ n ih =>
   intro x hm hI;rcases h x hI with ⟨x',h1,h2,h3⟩ | ⟨y,h1,h2⟩
   ·obtain ⟨y,q1,q2⟩:=ih x' (by omega) h2;exact ⟨y,by rw [Y9s,h1]; exact q1,q2⟩
   ·exact ⟨y,by rw [Y9s,h1],h2⟩
 intro x hI;exact this (m x) x (Nat.le_refl _) hI
theorem Y9r {X Y:Type} {f:X→Option (X ⊕ Y)} (n:Nat) (st:Nat→X) (y:Y) (h1:∀ k,k < n→f (st k)=some (.inl (st (k+1)))) (h2:f (st n)=some (.inr y)):∀ k,k ≤ n→loop f (st k)=some y:=by
 have:∀ d k,n - k=d→k ≤ n→loop f (st k)=some y:=by
  intro d;induction d with
  | zero =>
   intro k h hk;obtain rfl:k=n:=by omega
   rw [Y9s,h2]
  | succ d ih =>
   intro k h hk;rw [Y9s,h1 k (by omega)];exact ih (k+1) (by omega) (by omega)
 intro k hk;exact this _ k rfl hk
theorem Y9t {X Y α:Type} {f:X→Option (X ⊕ Y)} (l:List α) (p:α→Bool) (st:Nat→X) (hit:Nat→Y) (miss:Y)
  (h1:∀ k (h:k < l.length),f (st k)=if p l[k] then some (.inr (hit k)) else some (.inl (st (k+1)))) (h2:f (st l.length)=some (.inr miss)) :
  loop f (st 0)=some (match l.findIdx? p with | some i=>hit i | none=>miss):=by
 have:∀ d k,l.length - k=d→k ≤ l.length→loop f (st k)=some (match (l.drop k).findIdx? p with | some i=>hit (k+i) | none=>miss):=by
  intro d;induction d with
  | zero =>
   intro k h hk;obtain rfl:k=l.length:=by omega
   rw [Y9s,h2,List.drop_length]; rfl
  | succ d ih =>
   intro k h hk;have hlt:k < l.length:=by omega
   rw [Y9s,h1 k hlt,List.drop_eq_getElem_cons hlt,List.findIdx?_cons];by_cases hp:p l[k]=true
   ·rw [if_pos hp,if_pos hp]; rfl
   ·rw [if_neg hp,if_neg hp];show loop f (st (k+1))=_;rw [ih (k+1) (by omega) (by omega)];cases (l.drop (k+1)).findIdx? p with
    | none=>rfl
    | some i=>simp only [Option.map_some]; congr 2; omega
 have h:=this _ 0 rfl (Nat.zero_le _);rw [h,List.drop_zero];cases l.findIdx? p with
 | none=>rfl
 | some i=>simp
theorem Ybk {κ α:Type} {eq:κ→κ→Bool} {x:κ} (u v:α):∀ (l:List (κ × α)),mset (mput eq x u l) (mpos eq x l) v=mput eq x v l
 | []=>rfl
 | p :: l=>by
  show mset (bif eq x p.1 then (x,u) :: l else p :: mput eq x u l) (bif eq x p.1 then 0 else mpos eq x l+1) v=(bif eq x p.1 then (x,v) :: l else p :: mput eq x v l)
  cases h:eq x p.1 with
  | true=>rfl
  | false =>
   simp only [cond_false];show p :: mset (mput eq x u l) (mpos eq x l) v=_;rw [Ybk u v l]
theorem Ybd {κ α:Type} {eq:κ→κ→Bool} {x:κ} (u:α):∀ (l:List (κ × α)),mpos eq x l < (mput eq x u l).length
 | []=>Nat.zero_lt_one
 | p :: l=>by
  show (bif eq x p.1 then 0 else mpos eq x l+1) < (bif eq x p.1 then (x,u) :: l else p :: mput eq x u l).length;cases h:eq x p.1 with
  | true=>simp
  | false =>
   have:=Ybd (eq:=eq) (x:=x) u l;simp only [cond_false,List.length_cons]; omega
theorem Ybe {κ α:Type} {eq:κ→κ→Bool} {x:κ} (u:α):∀ (l:List (κ × α)),(mput eq x u l).length=if mhas eq x l=true then l.length else l.length+1
 | []=>rfl
 | p :: l=>by
  show (bif eq x p.1 then (x,u) :: l else p :: mput eq x u l).length=if (bif eq x p.1 then true else mhas eq x l)=true then l.length+1 else l.length+1+1
  cases h:eq x p.1 with
  | true=>simp
  | false =>
   simp only [cond_false,List.length_cons,Ybe u l];split <;> rfl
theorem Ybh {κ α:Type} [DecidableEq κ] {eq:κ→κ→Bool} (he:∀ a b,eq a b=true ↔ a=b) {z:α} (x:κ) (u:α) (y:κ):∀ (l:List (κ × α)),mlook eq z y (mput eq x u l)=if y=x then u else mlook eq z y l
 | []=>by
  show (bif eq y x then u else z)=_;by_cases h:y=x
  ·rw [(he y x).2 h,if_pos h]; rfl
  ·rw [if_neg h];cases hb:eq y x with
   | true=>exact absurd ((he y x).1 hb) h
   | false=>rfl
 | p :: l=>by
  show mlook eq z y (bif eq x p.1 then (x,u) :: l else p :: mput eq x u l)=if y=x then u else (bif eq y p.1 then p.2 else mlook eq z y l)
  cases h:eq x p.1 with
  | true =>
   have hx:=(he _ _).1 h;show (bif eq y x then u else mlook eq z y l)=_;by_cases h2:y=x
   ·rw [(he y x).2 h2,if_pos h2]; rfl
   ·rw [if_neg h2,← hx];cases hb:eq y x with
    | true=>exact absurd ((he y x).1 hb) h2
    | false=>rfl
  | false =>
   show (bif eq y p.1 then p.2 else mlook eq z y (mput eq x u l))=_;rw [Ybh he x u y l];cases hb:eq y p.1 with
   | false=>rfl
   | true =>
    have hy:=(he _ _).1 hb;have hne:¬ y=x:=fun e=>by rw [e] at hb; rw [hb] at h; cases h
    simp [hne]
theorem Ybf {κ α:Type} {eq:κ→κ→Bool} (he:∀ a b,eq a b=true ↔ a=b) (x:κ) (u:α) (y:κ):∀ (l:List (κ × α)),mhas eq y (mput eq x u l)=(eq y x || mhas eq y l)
 | []=>by
  show (bif eq y x then true else false)=(eq y x || false)
  cases eq y x <;> rfl
 | p :: l=>by
  show mhas eq y (bif eq x p.1 then (x,u) :: l else p :: mput eq x u l)=(eq y x || (bif eq y p.1 then true else mhas eq y l))
  cases h:eq x p.1 with
  | true =>
   have hx:=(he _ _).1 h;show (bif eq y x then true else mhas eq y l)=_;rw [← hx];cases eq y x <;> rfl
  | false =>
   show (bif eq y p.1 then true else mhas eq y (mput eq x u l))=_;rw [Ybf he x u y l];cases eq y p.1 <;> cases eq y x <;> rfl
theorem bif_t {α:Type} {b:Bool} {x y:α} (h:b=true):(bif b then x else y)=x:=by rw [h]; rfl
theorem bif_f {α:Type} {b:Bool} {x y:α} (h:b=false):(bif b then x else y)=y:=by rw [h]; rfl
theorem decE {p q:Prop} {i:Decidable p} {j:Decidable q} (h:p ↔ q):some (@decide p i)=some (@decide q j):=by
 by_cases hp:p
 ·rw [decide_eq_true hp,decide_eq_true (h.1 hp)]
 ·rw [decide_eq_false hp,decide_eq_false (fun hq=>hp (h.2 hq))]
theorem decF {p:Prop} {i:Decidable p} (h:¬ p):some false=some (@decide p i):=by rw [decide_eq_false h]
theorem decT {p:Prop} {i:Decidable p} (h:p):some true=some (@decide p i):=by rw [decide_eq_true h]
end Go.Proofs.YthdlpkdojipfhaaGreat.VX
namespace Go.Proofs.YthdlpkdojipfhaaGreat.VX
theorem Ybw {α:Type} [BEq α] [LawfulBEq α]:∀ (l L:List α),l.Nodup→(∀ x ∈ l,x ∈ L)→l.length ≤ L.length
 | [],L,_,_=>Nat.zero_le _
 | a :: l,L,h,hs=>by
  obtain ⟨h1,h2⟩:=List.nodup_cons.1 h;have ha:=hs a (List.mem_cons_self ..);have:=Ybw l (L.erase a) h2 (fun x hx=>(List.mem_erase_of_ne (show x ≠ a from fun e=>h1 (by rw [← e]; exact hx))).2 (hs x (List.mem_cons_of_mem _ hx)));rw [List.length_erase_of_mem ha] at this;have:=List.length_pos_of_mem ha;simp only [List.length_cons]; omega
theorem Y9u {X Y:Type} {f:X→Option (X ⊕ Y)} (n:Nat) (st:Nat→X) (q:Nat→Option Y) (z:Y)
  (h1:∀ k,k < n→f (st k)=match q k with | none=>some (.inl (st (k+1))) | some y=>some (.inr y)) (h2:f (st n)=some (.inr z)) :
  loop f (st 0)=some (((List.range n).findSome? q).getD z):=by
 have:∀ d k,n - k=d→k ≤ n→loop f (st k)=some (((List.range' k (n - k)).findSome? q).getD z):=by
  intro d;induction d with
  | zero =>
   intro k h hk;obtain rfl:k=n:=by omega
   rw [Y9s,h2,Nat.sub_self]; rfl
  | succ d ih =>
   intro k h hk;rw [Y9s,h1 k (by omega),show n - k=(n - (k+1))+1 by omega,List.range'_succ,List.findSome?_cons];cases hq:q k with
   | none=>exact ih (k+1) (by omega) (by omega)
   | some y=>rfl
 rw [List.range_eq_range',this n 0 (by omega) (Nat.zero_le _),Nat.sub_zero]
end Go.Proofs.YthdlpkdojipfhaaGreat.VX
namespace Go.Proofs.YthdlpkdojipfhaaGreat.VX
noncomputable def tB (p:Prop):Bool:=@decide p (Classical.propDecidable p)
theorem tB_t {p:Prop} (h:p):tB p=true:=by unfold tB; exact @decide_eq_true p (Classical.propDecidable p) h
theorem tB_f {p:Prop} (h:¬ p):tB p=false:=by unfold tB; exact @decide_eq_false p (Classical.propDecidable p) h
theorem tB_iff {b:Bool} {p:Prop} (h:b=true ↔ p):b=tB p:=by
 by_cases hp:p
 ·rw [tB_t hp]; exact h.2 hp
 ·rw [tB_f hp];cases b with
  | true=>exact absurd (h.1 rfl) hp
  | false=>rfl
theorem neg1:(Int.negSucc 0)=(-1:Int):=rfl
end Go.Proofs.YthdlpkdojipfhaaGreat.VX
namespace Go.Proofs.YthdlpkdojipfhaaGreat.VX.VxM_M
open Go.Proofs
abbrev W:=Int × (Int × Int)
abbrev K:=Int × Int
def keyW (w:W):K:=(w.1,w.2.1)
def isW (w:W):Prop:=0 ≤ w.1∧0 ≤ w.2.1∧0 ≤ w.2.2
instance (w:W):Decidable (isW w):=by unfold isW; infer_instance
def eqK:K→K→Bool:=Ty.beq (.pair (.int .i64) (.int .i64))
theorem Y5m (a b:K):eqK a b=true ↔ a=b:=by
 show (a.1 == b.1 && a.2 == b.2)=true ↔ a=b;rw [Bool.and_eq_true,beq_iff_eq,beq_iff_eq,Prod.ext_iff]
theorem Y8p (w:W):Z94 w=some (decide (isW w)):=by
 simp only [Z94,isW,cond_eq_ite,decide_eq_true_eq]
 repeat' split
 all_goals first | exact decF (by omega) | exact decT (by omega) | exact decE (by omega)
theorem Y8v (l:List W) (hl:l.length < 4611686018427387904):Z6i l=some (l.any fun w=>!decide (isW w)):=by
 unfold Z6i Z76
 have:=Y9t (f:=Zav) l (fun w=>!decide (isW w)) (fun k=>(l,(l.length:Int),(k:Int))) (fun k=>.inl (k:Int)) (.inr ()) (by
  intro k hk;unfold Zav Z91;simp only;rw [bif_t (by simpa using hk),bif_t (Y82 hk),Yif,getAtL _ hk,Y8p];simp only [Option.bind_some];rw [wrapI (by omega) (by omega)];cases h:decide (isW l[k]) <;> rfl) (by
  unfold Zav;simp only;rw [bif_f (by simp)])
 rw [show loop Zav (l,(l.length:Int),(0:Int))=_ from this,← List.findIdx?_isSome];cases l.findIdx? fun w=>!decide (isW w) with
 | none=>rfl
 | some i=>simp
def stepM (m:List (K × Int)) (w:W):List (K × Int):=mput eqK (keyW w) (mlook eqK 0 (keyW w) m+1) m
def mets (l:List W):List (K × Int):=l.foldl stepM []
theorem Yaq:∀ (l:List W) (m:List (K × Int)) (ks:List K),(∀ k,mlook eqK (0:Int) k m=(ks.count k:Nat))→(∀ k,mhas eqK k m=decide (k ∈ ks)) →
  (∀ k,mlook eqK (0:Int) k (l.foldl stepM m)=((ks++l.map keyW).count k:Nat))∧(l.foldl stepM m).length ≤ m.length+l.length∧((l.foldl stepM m).length=m.length+l.length ↔ (l.map keyW).Nodup∧∀ k ∈ l.map keyW,k ∉ ks)
 | [],m,ks,h1,h2=>⟨fun k=>by simp [h1],by simp,by simp⟩
 | w :: l,m,ks,h1,h2=>by
  have ih:=Yaq l (stepM m w) (ks++[keyW w]) (fun k=>by
   unfold stepM;rw [Ybh Y5m];by_cases e:k=keyW w
   ·rw [if_pos e,← e,h1,List.count_append]; simp
   ·rw [if_neg e,h1,List.count_append,List.count_singleton];rw [show (keyW w == k)=false by simpa using fun h=>e h.symm]; simp) (fun k=>by
   unfold stepM;rw [Ybf Y5m,h2];by_cases e:k=keyW w
   ·rw [(Y5m _ _).2 e]; simp [e]
   ·rw [show eqK k (keyW w)=false by
     cases hb:eqK k (keyW w) with
     | false=>rfl
     | true=>exact absurd ((Y5m _ _).1 hb) e]
    simp [e])
  obtain ⟨i1,i2,i3⟩:=ih
  have hlen:(stepM m w).length=if keyW w ∈ ks then m.length else m.length+1:=by
   unfold stepM;rw [Ybe,h2]; simp
  refine ⟨fun k=>by rw [List.foldl_cons,i1]; simp,?_,?_⟩
  ·rw [List.foldl_cons,List.length_cons];split at hlen <;> omega
  ·rw [List.foldl_cons,List.length_cons,List.map_cons,List.nodup_cons];by_cases e:keyW w ∈ ks
   ·rw [if_pos e] at hlen;constructor
    ·intro h; omega
    ·intro h; exact absurd e (h.2 _ (List.mem_cons_self ..))
   ·rw [if_neg e] at hlen;rw [show m.length+(l.length+1)=(stepM m w).length+l.length by omega,i3];constructor
    ·rintro ⟨q1,q2⟩;refine ⟨⟨fun h=>(q2 _ h) (by simp),q1⟩,fun k hk=>?_⟩;rcases List.mem_cons.1 hk with rfl | hk
     ·exact e
     ·exact fun h=>q2 k hk (by simp [h])
    ·rintro ⟨⟨q1,q2⟩,q3⟩;refine ⟨q2,fun k hk h=>?_⟩;rcases List.mem_append.1 h with h | h
     ·exact q3 k (List.mem_cons_of_mem _ hk) h
     ·simp at h; subst h; exact q1 hk
theorem Yar (l:List W) (k:K):mlook eqK (0:Int) k (mets l)=((l.map keyW).count k:Nat):=by
 have:=(Yaq l [] [] (fun k=>rfl) (fun k=>rfl)).1 k;simpa [mets] using this
theorem Yas (l:List W):(mets l).length=l.length ↔ (l.map keyW).Nodup:=by
 have:=(Yaq l [] [] (fun k=>rfl) (fun k=>rfl)).2.2;simpa [mets] using this
theorem met_eq (l:List W) (hl:l.length < 4611686018427387904):Z96 l=some (mets l):=by
 unfold Z96
 have:=Y9r (f:=Zb5) l.length (fun k=>(l,(l.length:Int),(k:Int),mets (l.take k))) (mets l) (by
  intro k hk;unfold Zb5;simp only;rw [bif_t (by simpa using hk),bif_t (Y82 hk),Yif,getAtL _ hk];have hc:=Yar (l.take k) (keyW l[k]);have hle:((l.take k).map keyW).count (keyW l[k]) ≤ k:=Nat.le_trans (List.count_le_length) (by simp; omega)
  show (bif inb ((mpos eqK (keyW l[k]) (mets (l.take k)):Nat):Int) (mput eqK (keyW l[k]) (mlook eqK (0:Int) (keyW l[k]) (mets (l.take k))) (mets (l.take k))).length then
   some (Sum.inl (l,(l.length:Int),IntKind.wrap .i64 ((k:Int)+1),mset (mput eqK (keyW l[k]) (mlook eqK (0:Int) (keyW l[k]) (mets (l.take k))) (mets (l.take k))) (mpos eqK (keyW l[k]) (mets (l.take k))) (IntKind.wrap .i64 (mlook eqK (0:Int) (keyW l[k]) (mets (l.take k))+1)))) else none)=_
  rw [bif_t (Y82 (Ybd _ _)),wrapI (n:=(k:Int)+1) (by omega) (by omega)];have hw:IntKind.wrap .i64 (mlook eqK (0:Int) (keyW l[k]) (mets (l.take k))+1)=mlook eqK (0:Int) (keyW l[k]) (mets (l.take k))+1:=wrapI (by omega) (by omega)
  have hst:mets (l.take (k+1))=stepM (mets (l.take k)) l[k]:=by
   unfold mets;rw [List.take_succ_eq_append_getElem hk,List.foldl_append]; rfl
  rw [hst];rw [hw,Ybk];rfl) (by
  unfold Zb5;simp only;rw [bif_f (by simp),List.take_length]) 0 (Nat.zero_le _)
 rw [show loop Zb5 (l,(l.length:Int),(0:Int),([]:List ((Int × Int) × Int)))=_ from this];rfl
def wOK (l:List W):Prop:=(∀ w ∈ l,isW w)∧l.length ≤ 64∧(l.map keyW).Nodup
instance (l:List W):Decidable (wOK l):=by unfold wOK; infer_instance
theorem Yiu (l:List W) (hl:l.length < 4611686018427387904):Z90 l=some (decide (wOK l)):=by
 unfold Z90;rw [Y8v l hl];simp only [Option.bind_some];by_cases h1:∀ w ∈ l,isW w
 ·rw [bif_f (by simpa using h1)];by_cases h2:l.length ≤ 64
  ·rw [bif_t (by simp; omega),met_eq l hl];simp only [Option.bind_some];by_cases h3:(l.map keyW).Nodup
   ·rw [(Yas l).2 h3];exact (by simp:some (((l.length:Nat):Int) == (l.length:Int))=some true).trans (decT ⟨h1,h2,h3⟩)
   ·have:(((mets l).length:Int) == (l.length:Int))=false:=by
     have:=mt (Yas l).1 h3;simp; omega
    rw [this];exact decF fun h=>h3 h.2.2
  ·rw [bif_f (by simp; omega)];exact decF fun h=>h2 h.2.1
 ·rw [bif_t (by simpa using h1)];exact decF fun h=>h1 h.1
end Go.Proofs.YthdlpkdojipfhaaGreat.VX.VxM_M
namespace Go.Proofs.YthdlpkdojipfhaaGreat.VX.VxM_M
open Go.Proofs
theorem Yiy (l:List W) (h:l.length ≤ 4294967296):Z64 l=some l:=by
 unfold Z64;by_cases hl:l.length=0
 ·obtain rfl:l=[]:=List.length_eq_zero_iff.1 hl;rw [bif_t (by rfl),bif_t (by rfl)];show amb (some []) (some [])=_;unfold amb;rw [if_pos rfl]
 ·rw [bif_f (by
   cases hb:Nat.beq l.length 0 with
   | false=>rfl
   | true=>exact absurd (Nat.eq_of_beq_eq_true hb) hl),bif_t (Y6i.2 (by simpa using h))]
  rfl
theorem Yj4 (l:List W) (w:W) (hl:l.length < 4611686018427387904):Z8y (l,w)=some (if wOK l then (if isW w then (if keyW w ∈ l.map keyW then ([],7) else if l.length=64 then ([],5) else (l++[w],0)) else ([],1)) else ([],1)):=by
 unfold Z8y;simp only;rw [Yiu l hl];simp only [Option.bind_some];by_cases h1:wOK l
 ·rw [bif_f (by simp [h1]),if_pos h1,Y8p];simp only [Option.bind_some];by_cases h2:isW w
  ·rw [bif_f (by simp [h2]),if_pos h2,met_eq l hl];simp only [Option.bind_some];have hc:=Yar l (keyW w);show (bif decide (mlook eqK (0:Int) (keyW w) (mets l) > 0) then _ else _)=_;rw [hc];by_cases h3:keyW w ∈ l.map keyW
   ·rw [bif_t (by have:=List.count_pos_iff.2 h3; simp; simpa using h3),if_pos h3]
   ·rw [bif_f (by have:=List.count_eq_zero.2 h3; simp [this]),if_neg h3];obtain ⟨_,h4,_⟩:=h1;by_cases h5:l.length=64
    ·rw [bif_t (by simp [h5]),if_pos h5]
    ·rw [bif_f (by simp; omega),if_neg h5,Yiy l (by omega)];simp only [Option.bind_some];rw [bif_t (Y6i.2 (by simp; omega))]
  ·rw [bif_t (by simp [h2]),if_neg h2]
 ·rw [bif_t (by simp [h1]),if_neg h1]
def zeroW:W:=(0,0,0)
def notG (g:Int) (w:W):Bool:=w.1 != g
theorem Yj0 (l:List W) (g:Int) (hl:l.length < 4611686018427387904):Z8t (l,g)=some (if wOK l then (if g < 0 then (zeroW,(1:Int)) else match l.findIdx? (notG g) with | some i=>(l.getD i zeroW,(0:Int)) | none=>(zeroW,(4:Int))) else (zeroW,(1:Int))):=by
 unfold Z8t;simp only;rw [Yiu l hl];simp only [Option.bind_some];by_cases h1:wOK l
 ·rw [bif_f (by simp [h1]),if_pos h1];by_cases h2:g < 0
  ·rw [bif_t (by simpa using h2),if_pos h2]; rfl
  ·rw [bif_f (by simpa using h2),if_neg h2]
   have:=Y9t (f:=Zat) l (notG g) (fun k=>(l,(l.length:Int),(k:Int),g)) (fun k=>.inl ((k:Int),g)) (.inr g) (by
    intro k hk;unfold Zat Z8u;simp only;rw [bif_t (by simpa using hk),bif_t (Y82 hk),Yif,getAtL _ hk];simp only [Option.bind_some];rw [wrapI (by omega) (by omega)];show (bif notG g l[k] then _ else _)=_;cases h:notG g l[k] <;> rfl) (by
    unfold Zat;simp only;rw [bif_f (by simp)])
   unfold Z74;simp only;rw [show loop Zat (l,(l.length:Int),(0:Int),g)=_ from this];cases hf:l.findIdx? (notG g) with
   | none=>rfl
   | some i =>
    obtain ⟨hi,_⟩:=List.findIdx?_eq_some_iff_getElem.1 hf;simp only [Option.bind_some];rw [bif_f (by simp),bif_t (Y82 hi),Yif,Y7a];rfl
 ·rw [bif_t (by simp [h1]),if_neg h1]; rfl
theorem Y8u (l:List W) (g:Int) (hl:l.length < 4611686018427387904):Z72 (l,g)=some (match l.findIdx? (fun w=>w.1 == g) with | some i=>((i:Int),l,g) | none=>(Int.negSucc 0,l,g)):=by
 have:=Y9t (f:=Zar) l (fun w=>w.1 == g) (fun k=>((l.length:Int),(k:Int),l,g)) (fun k=>.inl ((k:Int),l,g)) (.inr (l,g)) (by
  intro k hk;unfold Zar Z8p;simp only;rw [bif_t (by simpa using hk),bif_t (Y82 hk),Yif,getAtL _ hk];simp only [Option.bind_some];rw [wrapI (by omega) (by omega)];cases h:(l[k].1 == g) <;> rfl) (by
  unfold Zar;simp only;rw [bif_f (by simp)])
 unfold Z72;simp only;rw [show loop Zar ((l.length:Int),(0:Int),l,g)=_ from this];cases l.findIdx? fun w=>w.1 == g <;> rfl
theorem Y4v (l:List W) (g:Int) (hl:l.length ≤ 64):Z6q (g,l)=some (l.filter (notG g),g):=by
 unfold Z6q;simp only;rw [Y8u l g (by omega)];simp only [Option.bind_some];cases hf:l.findIdx? (fun w=>w.1 == g) with
 | none =>
  rw [List.findIdx?_eq_none_iff] at hf;rw [bif_t (by rfl)];have:l.filter (notG g)=l:=List.filter_eq_self.2 fun w hw=>by have:=hf w hw; simpa [notG] using this
  rw [this]
 | some i =>
  obtain ⟨hi,hp,hq⟩:=List.findIdx?_eq_some_iff_getElem.1 hf;simp only;rw [bif_f (by simp),wrapI (by omega) (by omega)]
  obtain ⟨y,y1,y2⟩:=Y9w (f:=Zaf) (fun x=>∃ (a b:Nat) (s:List W),x=((a:Int),(b:Int),g,s)∧a ≤ b∧b ≤ l.length∧s.length=l.length∧s.take a=(l.take b).filter (notG g)∧s.drop b=l.drop b)
   (fun y=>∃ (a:Nat) (s:List W),y=((a:Int),g,s)∧a ≤ l.length∧s.length=l.length∧s.take a=l.filter (notG g)) (fun x=>l.length - x.2.1.toNat) (by
   rintro x ⟨a,b,s,rfl,hab,hb,hs,h1,h2⟩;unfold Zaf Z8p;simp only;by_cases hlt:b < l.length
   ·left
    have hsb:s[b]'(by omega)=l[b]:=by
     have e1:=List.getElem_drop (xs:=s) (i:=b) (j:=0) (h:=by simp; omega);have e2:=List.getElem_drop (xs:=l) (i:=b) (j:=0) (h:=by simp; omega);simp only [h2,Nat.add_zero] at e1 e2;rw [← e1,← e2]
    rw [bif_t (by simp; omega),bif_t (Y82 (by omega)),Yif,getAtL _ (by omega:b < s.length),hsb];simp only [Option.bind_some];rw [wrapI (n:=(b:Int)+1) (by omega) (by omega)];by_cases hg:l[b].1=g
    ·rw [bif_f (by simp [hg])];refine ⟨_,rfl,⟨a,b+1,s,rfl,by omega,hlt,hs,?_,?_⟩,?_⟩
     ·rw [h1,List.take_succ_eq_append_getElem hlt,List.filter_append];simp [notG,hg]
     ·rw [← List.drop_drop (i:=1) (j:=b),← List.drop_drop (i:=1) (j:=b),h2]
     ·show l.length - ((b:Int)+1).toNat < l.length - (b:Int).toNat; omega
    ·rw [bif_t (by simp [hg]),bif_t (Y82 (by omega)),Yif,wrapI (n:=(a:Int)+1) (by omega) (by omega)];refine ⟨_,rfl,⟨a+1,b+1,s.set a l[b],rfl,by omega,hlt,by simpa using hs,?_,?_⟩,?_⟩
     ·rw [List.take_succ_eq_append_getElem (by simp; omega),List.take_set_of_le (Nat.le_refl a),h1,List.take_succ_eq_append_getElem hlt,List.filter_append];have:notG g l[b]=true:=by simpa [notG] using hg
      simp [this]
     ·rw [List.drop_set_of_lt (by omega),← List.drop_drop (i:=1) (j:=b),← List.drop_drop (i:=1) (j:=b),h2]
     ·show l.length - ((b:Int)+1).toNat < l.length - (b:Int).toNat; omega
   ·right;rw [bif_f (by simp; omega)];refine ⟨_,rfl,a,s,rfl,by omega,hs,?_⟩;rw [h1,List.take_of_length_le (by omega)]) ((i:Int),(i:Int)+1,g,l) ⟨i,i+1,l,rfl,by omega,hi,rfl,by
    rw [List.take_succ_eq_append_getElem hi,List.filter_append]
    have:(l.take i).filter (notG g)=l.take i:=List.filter_eq_self.2 fun w hw=>by
     obtain ⟨j,hj,rfl⟩:=List.getElem_of_mem hw;have hj2:j < i:=by simp at hj; omega
     have:=hq j hj2;simp only [List.getElem_take];simpa [notG] using this
    rw [this];have hp:l[i].1=g:=by simpa using hp
    simp [notG,hp],rfl⟩
  rw [y1];obtain ⟨a,s,rfl,h1,h2,h3⟩:=y2;simp only [Option.bind_some];rw [bif_t (sub3L.2 (by omega))]
  have hov:∀ (z:List W),z.length=s.length - a→(over s z a (s.length - a)).length=s.length∧(over s z a (s.length - a)).take a=s.take a:=by
   intro z hz;unfold over;constructor
   ·simp; omega
   ·rw [List.append_assoc,List.take_append_of_le_length (by simp; omega),List.take_of_length_le (by simp; omega)]
  have hz:=hov (List.replicate (s.length - a) ((0:Int),(0:Int),(0:Int))) (by simp);have e1:toN (s.length:Int) - toN (a:Int)=s.length - a:=rfl;have e2:toN (a:Int)=a:=rfl;rw [e1,e2];rw [bif_t (sub3L.2 (by rw [hz.1]; omega))]
  have:cut (over s (List.replicate (s.length - a) ((0:Int),(0:Int),(0:Int))) a (s.length - a)) (toN 0) (a - toN 0)=l.filter (notG g):=by
   unfold cut;show ((over s _ a (s.length - a)).drop 0).take a=_;rw [List.drop_zero,hz.2,h3]
  rw [this]
theorem Yiz (l:List W) (g:Int) (hl:l.length < 4611686018427387904):Z8o (l,g)=some (if wOK l then (if g < 0 then ([],1) else (l.filter (notG g),0)) else ([],1)):=by
 unfold Z8o;simp only;rw [Yiu l hl];simp only [Option.bind_some];by_cases h1:wOK l
 ·rw [bif_f (by simp [h1]),if_pos h1];by_cases h2:g < 0
  ·rw [bif_t (by simpa using h2),if_pos h2]
  ·obtain ⟨_,h4,_⟩:=h1;rw [bif_f (by simpa using h2),if_neg h2,Yiy l (by omega)];simp only [Option.bind_some];rw [Y4v l g h4];rfl
 ·rw [bif_t (by simp [h1]),if_neg h1]
end Go.Proofs.YthdlpkdojipfhaaGreat.VX.VxM_M
namespace Go.Proofs.YthdlpkdojipfhaaGreat.VX.VxM_M
open Go.Proofs
def eqW:W→W→Bool:=Ty.beq (.pair (.int .i64) (.pair (.int .i64) (.int .i64)))
theorem Y5p (a b:W):eqW a b=true ↔ a=b:=by
 show (a.1 == b.1 && (a.2.1 == b.2.1 && a.2.2 == b.2.2))=true ↔ a=b;rw [Bool.and_eq_true,Bool.and_eq_true,beq_iff_eq,beq_iff_eq,beq_iff_eq,Prod.ext_iff,Prod.ext_iff]
theorem same_eq {a b:List W} (ha:a.length < 4611686018427387904):Z3t (a,b)=some (decide (a=b)):=by
 unfold Z3t;simp only;by_cases hl:a.length=b.length
 ·rw [bif_f (by simp [hl])]
  obtain ⟨y,h1,h2⟩:=Y9w (f:=Z9u) (fun x=>∃ k:Nat,x=(a,b,(a.length:Int),(k:Int))∧k ≤ a.length∧a.take k=b.take k) (fun y=>(y=.inl false∧a ≠ b) ∨ (y=.inr ()∧a=b)) (fun x=>a.length - x.2.2.2.toNat) (by
   rintro x ⟨k,rfl,hk,he⟩;unfold Z9u;simp only;by_cases hlt:k < a.length
   ·rw [bif_t (by simpa using hlt),bif_t (Y82 hlt),bif_t (Y82 (by omega)),Yif];have g1:getAt zeroW a k=a[k]:=getAtL _ hlt;have g2:getAt zeroW b k=b[k]'(by omega):=getAtL _ (by omega);by_cases hx:a[k]=b[k]'(by omega)
    ·left;have hq:eqW (getAt zeroW a k) (getAt zeroW b k)=true:=by rw [g1,g2]; exact (Y5p _ _).2 hx
     refine ⟨(a,b,(a.length:Int),IntKind.wrap .i64 ((k:Int)+1)),bif_f (congrArg Bool.not hq),⟨k+1,?_,hlt,?_⟩,?_⟩
     ·rw [wrapI (by omega) (by omega)]; rfl
     ·rw [List.take_succ_eq_append_getElem hlt,List.take_succ_eq_append_getElem (by omega:k < b.length),he,hx]
     ·rw [wrapI (by omega) (by omega)]; show a.length - ((k:Int)+1).toNat < a.length - (k:Int).toNat; omega
    ·right
     have hq:eqW (getAt zeroW a k) (getAt zeroW b k)=false:=by
      rw [g1,g2];cases h:eqW a[k] (b[k]'(by omega)) with
      | false=>rfl
      | true=>exact absurd ((Y5p _ _).1 h) hx
     exact ⟨.inl false,bif_t (congrArg Bool.not hq),.inl ⟨rfl,fun e=>hx (by subst e; rfl)⟩⟩
   ·right;rw [bif_f (by simpa using hlt)];refine ⟨_,rfl,.inr ⟨rfl,?_⟩⟩
    rwa [List.take_of_length_le (by omega),List.take_of_length_le (by omega)] at he) (a,b,(a.length:Int),0) ⟨0,rfl,Nat.zero_le _,rfl⟩
  rw [h1];rcases h2 with ⟨rfl,h⟩ | ⟨rfl,h⟩
  ·simp [h]
  ·simp [h]
 ·rw [bif_t (by simp; omega)];have:a ≠ b:=fun e=>hl (by rw [e])
  simp [this]
end Go.Proofs.YthdlpkdojipfhaaGreat.VX.VxM_M
namespace Go.Proofs.YthdlpkdojipfhaaGreat.VX.VxM_M
open Go.Proofs
abbrev Rg:=Int × (Int × (List Int × Int))
def rOK (r:Rg):Prop:=0 ≤ r.1∧r.1 ≤ 8∧(r.2.2.1.length:Int)=r.1∧0 ≤ r.2.2.2∧r.2.2.2 ≤ r.1∧0 ≤ r.2.1∧r.2.1 < max 1 r.1
instance (r:Rg):Decidable (rOK r):=by unfold rOK; infer_instance
def rSlot (r:Rg) (i:Nat):Nat:=(r.2.1.toNat+i) % r.1.toNat
def rItems (r:Rg):List Int:=(List.range r.2.2.2.toNat).map fun i=>r.2.2.1.getD (rSlot r i) 0
theorem Yeq (r:Rg):Z5c r=some (decide (rOK r)):=by
 obtain ⟨c,f,s,n⟩:=r;simp only [Z5c,rOK,cond_eq_ite,decide_eq_true_eq,beq_iff_eq]
 repeat' split
 all_goals first | exact decF (by omega) | exact decT (by omega) | exact decE (by omega)
theorem Yic (a b:Nat):Int.tmod (a:Int) (b:Int)=((a % b:Nat):Int):=by
 rw [Int.tmod_eq_emod_of_nonneg (by omega)]; rfl
theorem at_eq {r:Rg} (h:rOK r) (hn:0 < r.1) {i:Nat} (hi:i ≤ 8):Z5i (r,(i:Int))=some ((rSlot r i:Nat):Int):=by
 obtain ⟨c,f,s,n⟩:=r;obtain ⟨h1,h2,h3,h4,h5,h6,h7⟩:=h;simp only at h1 h2 h3 h4 h5 h6 h7 hn;unfold Z5i;simp only;rw [bif_t (by simp; omega),wrapI (by omega) (by omega)];obtain ⟨c',rfl⟩:=Int.eq_ofNat_of_zero_le h1;obtain ⟨f',rfl⟩:=Int.eq_ofNat_of_zero_le h6;show some (Int.tmod (((f'+i:Nat)):Int) (c':Int))=_;rw [Yic]; rfl
theorem Yh5 {r:Rg} (hn:0 < r.1) (i:Nat):rSlot r i < r.1.toNat:=Nat.mod_lt _ (by omega)
theorem Y8r (r:Rg):Z52 r=some (if rOK r then (rItems r,0) else ([],1)):=by
 unfold Z52;rw [Yeq];simp only [Option.bind_some];by_cases h:rOK r
 ·rw [bif_f (by simp [h]),if_pos h];unfold Z5e Z5f;simp only [Option.bind_some];have hr:=h;obtain ⟨h1,h2,h3,h4,h5,h6,h7⟩:=h;obtain ⟨n,hn⟩:=Int.eq_ofNat_of_zero_le h4
  have:=Y9r (f:=Zab) n (fun k=>((n:Int),(k:Int),r,(List.range k).map fun i=>r.2.2.1.getD (rSlot r i) 0)) (.inr (r,rItems r)) (by
   intro k hk;unfold Zab Z54;simp only;rw [bif_t (by simpa using hk),at_eq hr (by omega) (by omega)];simp only [Option.bind_some];have hs:=Yh5 (r:=r) (by omega) k;rw [bif_t (Y82 (by omega)),bif_t (Y6i.2 (by simp; omega))];simp only [Option.bind_some];rw [bif_t (by rfl),wrapI (by omega) (by omega),Yif,Y7a];rw [List.range_succ,List.map_append]; rfl) (by
   unfold Zab;simp only;rw [bif_f (by simp)];unfold rItems;rw [hn]; rfl) 0 (Nat.zero_le _)
  rw [hn];rw [show loop Zab ((n:Int),(0:Int),r,([]:List Int))=_ from this];simp only [Option.bind_some];rw [bif_t (by rfl)]
 ·rw [bif_t (by simp [h]),if_neg h]
theorem Y8s (r:Rg):(rItems r).length=r.2.2.2.toNat:=by simp [rItems]
def zeroR:Rg:=(0,0,[],0)
def pushed (r:Rg) (v:Int):Rg:=(r.1,r.2.1,r.2.2.1.set (rSlot r r.2.2.2.toNat) v,r.2.2.2+1)
def popped (r:Rg):Rg:=(r.1,(rSlot r 1:Nat),r.2.2.1,r.2.2.2 - 1)
def first (r:Rg):Int:=r.2.2.1.getD (rSlot r 0) 0
theorem Y3u (l:List Int) (h:l.length ≤ 4294967296):Z66 l=some l:=by
 unfold Z66;by_cases hl:l.length=0
 ·obtain rfl:l=[]:=List.length_eq_zero_iff.1 hl;rw [bif_t (by rfl),bif_t (by rfl)];show amb (some []) (some [])=_;unfold amb;rw [if_pos rfl]
 ·rw [bif_f (by
   cases hb:Nat.beq l.length 0 with
   | false=>rfl
   | true=>exact absurd (Nat.eq_of_beq_eq_true hb) hl),bif_t (Y6i.2 (by simpa using h))]
  rfl
theorem Ydo (r:Rg) (v:Int):Z5a (r,v)=some (if rOK r then (if r.2.2.2=r.1 then (zeroR,5) else (pushed r v,0)) else (zeroR,1)):=by
 unfold Z5a;simp only;rw [Yeq];simp only [Option.bind_some];by_cases h:rOK r
 ·rw [bif_f (by simp [h]),if_pos h];by_cases hn:r.2.2.2=r.1
  ·rw [bif_t (by simpa using hn),if_pos hn]; rfl
  ·rw [bif_f (by simpa using hn),if_neg hn];have hr:=h;obtain ⟨h1,h2,h3,h4,h5,h6,h7⟩:=h;rw [Y3u _ (by omega)];simp only [Option.bind_some];unfold Z5j;simp only;obtain ⟨n,hn'⟩:=Int.eq_ofNat_of_zero_le h4;have ha:=at_eq hr (by omega) (i:=n) (by omega);unfold Z5i at ha;simp only at ha;rw [bif_t (by simp; omega)] at ha;rw [bif_t (by simp; omega),hn'];rw [Option.some.inj ha];simp only [Option.bind_some];have hs:=Yh5 (r:=r) (by omega) n;rw [bif_t (Y82 (by omega)),wrapI (by omega) (by omega),Yif];unfold pushed;rw [hn']; rfl
 ·rw [bif_t (by simp [h]),if_neg h]; rfl
theorem pop_eq (r:Rg):Z58 r=some (if rOK r then (if r.2.2.2=0 then (zeroR,0,4) else (popped r,first r,0)) else (zeroR,0,1)):=by
 unfold Z58;rw [Yeq];simp only [Option.bind_some];by_cases h:rOK r
 ·rw [bif_f (by simp [h]),if_pos h];by_cases hn:r.2.2.2=0
  ·rw [bif_t (by simpa using hn),if_pos hn]; rfl
  ·rw [bif_f (by simpa using hn),if_neg hn];have hr:=h;obtain ⟨h1,h2,h3,h4,h5,h6,h7⟩:=h;have a0:=at_eq hr (by omega) (i:=0) (by omega);have a1:=at_eq hr (by omega) (i:=1) (by omega);rw [show Z5i (r,(0:Int))=_ from a0,show Z5i (r,(1:Int))=_ from a1];simp only [Option.bind_some];have hs:=Yh5 (r:=r) (by omega) 0;rw [bif_t (Y82 (by omega)),wrapI (by omega) (by omega),Yif,Y7a];rfl
 ·rw [bif_t (by simp [h]),if_neg h]; rfl
theorem Ydq {r:Rg} (h:rOK r) (hn:r.2.2.2 ≠ r.1) (v:Int):rOK (pushed r v):=by
 obtain ⟨h1,h2,h3,h4,h5,h6,h7⟩:=h;refine ⟨h1,h2,?_,?_,?_,h6,h7⟩
 ·simp only [pushed,List.length_set]; exact h3
 ·simp only [pushed]; omega
 ·simp only [pushed]; omega
theorem Yh4 {r:Rg} (hc:0 < r.1) {i j:Nat} (hi:i < r.1.toNat) (hj:j < r.1.toNat) (h:rSlot r i=rSlot r j):i=j:=by
 unfold rSlot at h;have h1:=Nat.div_add_mod (r.2.1.toNat+i) r.1.toNat;have h2:=Nat.div_add_mod (r.2.1.toNat+j) r.1.toNat;rw [h] at h1;generalize r.1.toNat=c at *;generalize (r.2.1.toNat+i) / c=p at *;generalize (r.2.1.toNat+j) / c=q at *;rcases Nat.lt_trichotomy p q with hpq | hpq | hpq
 ·have:c * p+c ≤ c * q:=by rw [← Nat.mul_succ]; exact Nat.mul_le_mul_left c hpq
  omega
 ·subst hpq; omega
 ·have:c * q+c ≤ c * p:=by rw [← Nat.mul_succ]; exact Nat.mul_le_mul_left c hpq
  omega
theorem Ydp {r:Rg} (h:rOK r) (hn:r.2.2.2 ≠ r.1) (v:Int):rItems (pushed r v)=rItems r++[v]:=by
 obtain ⟨h1,h2,h3,h4,h5,h6,h7⟩:=h;unfold rItems;have e:(pushed r v).2.2.2.toNat=r.2.2.2.toNat+1:=by simp only [pushed]; omega
 rw [e,List.range_succ,List.map_append];congr 1
 ·refine List.map_congr_left fun i hi=>?_
  rw [List.mem_range] at hi;show (r.2.2.1.set (rSlot r r.2.2.2.toNat) v).getD (rSlot r i) 0=_
  have hne:rSlot r r.2.2.2.toNat ≠ rSlot r i:=fun e=>by
   have:=Yh4 (r:=r) (by omega) (by omega) (by omega) e;omega
  simp only [List.getD_eq_getElem?_getD,List.getElem?_set_ne hne]
 ·show [(r.2.2.1.set (rSlot r r.2.2.2.toNat) v).getD (rSlot r r.2.2.2.toNat) 0]=[v]
  have hs:=Yh5 (r:=r) (by omega) r.2.2.2.toNat;simp only [List.getD_eq_getElem?_getD,List.getElem?_set_self (show rSlot r r.2.2.2.toNat < r.2.2.1.length by omega),Option.getD_some]
theorem Ydj {r:Rg} (h:rOK r) (hn:r.2.2.2 ≠ 0):rOK (popped r):=by
 obtain ⟨h1,h2,h3,h4,h5,h6,h7⟩:=h;have hs:=Yh5 (r:=r) (by omega) 1;refine ⟨h1,h2,h3,?_,?_,?_,?_⟩
 ·simp only [popped]; omega
 ·simp only [popped]; omega
 ·simp only [popped]; omega
 ·simp only [popped]; omega
theorem Ydi {r:Rg} (h:rOK r) (hn:r.2.2.2 ≠ 0):rItems r=first r :: rItems (popped r):=by
 obtain ⟨h1,h2,h3,h4,h5,h6,h7⟩:=h;unfold rItems;have e:r.2.2.2.toNat=(popped r).2.2.2.toNat+1:=by simp only [popped]; omega
 rw [e,List.range_succ_eq_map,List.map_cons,List.map_map];congr 1;refine List.map_congr_left fun i _=>?_
 show r.2.2.1.getD (rSlot r (i+1)) 0=r.2.2.1.getD (rSlot (popped r) i) 0;congr 1;show (r.2.1.toNat+(i+1)) % r.1.toNat=(((r.2.1.toNat+1) % r.1.toNat:Nat)+i) % r.1.toNat;rw [Nat.mod_add_mod]; congr 1; omega
end Go.Proofs.YthdlpkdojipfhaaGreat.VX.VxM_M
namespace Go.Proofs.YthdlpkdojipfhaaGreat.VX.VxM_M
open Go.Proofs
theorem new_eq (n:Int):Z56 n=some (if n < 0 ∨ n > 8 then (zeroR,2) else ((n,0,List.replicate n.toNat 0,0),0)):=by
 unfold Z56;by_cases h1:n < 0
 ·rw [bif_t (by simpa using h1),if_pos (.inl h1)]; rfl
 ·rw [bif_f (by simpa using h1)];by_cases h2:n > 8
  ·rw [bif_t (by simpa using h2),if_pos (.inr h2)]; rfl
  ·rw [bif_f (by simpa using h2),if_neg (by omega),bif_t (Yaz.2 (by omega))]; rfl
theorem new_ok {n:Int} (h1:0 ≤ n) (h2:n ≤ 8):rOK (n,0,List.replicate n.toNat 0,0):=by
 refine ⟨h1,h2,?_,?_,?_,?_,?_⟩ <;> simp <;> omega
end Go.Proofs.YthdlpkdojipfhaaGreat.VX.VxM_M
namespace Go.Proofs.YthdlpkdojipfhaaGreat.VX.VxM_M
open Go.Proofs
abbrev Ch:=Int × (Bool × (Rg × (Int × (Int × (List W × List W)))))
abbrev Ou:=Int × (Int × (W × Int))
def zeroC:Ch:=(0,false,(0,0,[],0),0,0,[],[])
def zeroOu:Ou:=(0,0,(0,0,0),0)
def seqI (a:Int) (n:Nat):List Int:=(List.range n).map fun (i:Nat)=>a+(i:Int)
theorem Ygh (a:Int) (n:Nat):(seqI a n).length=n:=by simp [seqI]
theorem Ygg (a:Int) (n:Nat) (k:Nat) (h:k < (seqI a n).length):(seqI a n)[k]=a+(k:Int):=by simp [seqI]
theorem Ygk {l:List Int} {a:Int}:l=seqI a l.length ↔ ∀ k (h:k < l.length),l[k]=a+(k:Int):=by
 constructor
 ·intro h k hk;have h1:l[k]?=(seqI a l.length)[k]?:=by rw [← h]
  rw [List.getElem?_eq_getElem hk,List.getElem?_eq_getElem (by rw [Ygh]; exact hk)] at h1;rw [Option.some.inj h1,Ygg]
 ·intro h;apply List.ext_getElem
  ·rw [Ygh]
  ·intro k h1 h2;rw [h k h1,Ygg]
theorem Ybz (l:List Int) (a b:Int) (hl:l.length ≤ 1000) (ha:0 ≤ a∧a ≤ 1048576) (hb:a ≤ b∧b ≤ 1048576):Zg (l,a,b)=some (decide (l=seqI a l.length∧(l.length:Int)=b - a)):=by
 have:=Y9t (f:=Z98) ((List.range l.length).map fun k=>decide (l.getD k 0 ≠ a+(k:Int))) (fun b=>b) (fun k=>(l,a,b,l,(l.length:Int),(k:Int))) (fun _=>.inl false) (.inr (l,a,b)) (by
  intro k hk;have hk':k < l.length:=by simpa using hk
  unfold Z98;simp only;rw [bif_t (by simpa using hk'),bif_t (Y82 hk'),Yif,getAtL _ hk',wrapI (n:=a+(k:Int)) (by omega) (by omega),wrapI (n:=(k:Int)+1) (by omega) (by omega)];have hd:l.getD k 0=l[k]:=by simp [List.getD,hk']
  rw [List.getElem_map,List.getElem_range,hd];by_cases h:l[k]=a+(k:Int)
  ·rw [bif_f (by simp [h]),if_neg (by simp [h])]; rfl
  ·rw [bif_t (by simp [h]),if_pos (by simp [h])]) (by
  unfold Z98;simp only [List.length_map,List.length_range];rw [bif_f (by simp)])
 unfold Zg;simp only;rw [show loop Z98 (l,a,b,l,(l.length:Int),(0:Int))=_ from this];cases hf:((List.range l.length).map fun k=>decide (l.getD k 0 ≠ a+(k:Int))).findIdx? (fun b=>b) with
 | none =>
  rw [List.findIdx?_eq_none_iff] at hf
  have hs:l=seqI a l.length:=Ygk.2 (fun k hk=>by
   have:=hf (decide (l.getD k 0 ≠ a+(k:Int))) (List.mem_map.2 ⟨k,List.mem_range.2 hk,rfl⟩);have hd:l.getD k 0=l[k]:=by simp [List.getD,hk]
   rw [hd] at this;simpa using this)
  simp only [Option.bind_some];rw [wrapI (by omega) (by omega)];by_cases h:(l.length:Int)=b - a
  ·rw [decide_eq_true ⟨hs,h⟩,beq_iff_eq.2 h]
  ·rw [decide_eq_false (fun e=>h e.2),beq_eq_false_iff_ne.2 h]
 | some i =>
  obtain ⟨hi,hp,_⟩:=List.findIdx?_eq_some_iff_getElem.1 hf;have hi':i < l.length:=by simpa using hi
  refine decF (fun e=>?_);have hd:l.getD i 0=l[i]:=by simp [List.getD,hi']
  rw [List.getElem_map,List.getElem_range,hd] at hp;have:=Ygk.1 e.1 i hi';simp [this] at hp
def Ygs (c:Ch):Prop:=if c.1 < 0 then c.2.1=false∧c.2.2.2.1=0∧c.2.2.2.2.2.1.length=0∧c.2.2.2.2.2.2.length=0 else
 if c.2.1=true then c.2.2.2.2.2.1.length=0∧c.2.2.2.2.2.2.length=0 else (c.2.2.2.2.2.1.length=0 ∨ c.2.2.1.2.2.2=c.1)∧(c.2.2.2.2.2.2.length=0 ∨ c.2.2.1.2.2.2=0)
instance (c:Ch):Decidable (Ygs c):=by unfold Ygs; infer_instance
def chOK (c:Ch):Prop:=rOK c.2.2.1∧-1 ≤ c.1∧c.1 ≤ 3∧c.2.2.1.1=max c.1 0∧wOK c.2.2.2.2.2.1∧wOK c.2.2.2.2.2.2∧0 ≤ c.2.2.2.1∧c.2.2.2.1 ≤ 1048576∧0 ≤ c.2.2.2.2.1∧c.2.2.2.2.1 ≤ c.2.2.2.1 ∧
 (rItems c.2.2.1=seqI c.2.2.2.2.1 (rItems c.2.2.1).length∧((rItems c.2.2.1).length:Int)=c.2.2.2.1 - c.2.2.2.2.1)∧Ygs c
instance (c:Ch):Decidable (chOK c):=by unfold chOK; infer_instance
theorem beqI (a b:Int):(a == b)=decide (a=b):=by
 by_cases h:a=b
 ·rw [decide_eq_true h,beq_iff_eq.2 h]
 ·rw [decide_eq_false h,beq_eq_false_iff_ne.2 h]
theorem gt0 (n:Nat):decide ((n:Int) > 0)=!decide (n=0):=by
 cases n with
 | zero=>rfl
 | succ n=>simp
theorem Y2w (c:Ch) (h1:c.2.2.2.2.2.1.length < 4611686018427387904) (h2:c.2.2.2.2.2.2.length < 4611686018427387904):Za c=some (decide (chOK c)):=by
 unfold Za chOK;rw [Y8r];simp only [Option.bind_some];rcases (Classical.em (rOK c.2.2.1)).symm with a1 | a1
 ·rw [if_neg a1,bif_t (by rfl)]; exact decF (fun h=>a1 h.1)
 rw [if_pos a1,bif_f (by rfl),show Int.negSucc 0=(-1:Int) from rfl];by_cases a2:c.1 < -1
 ·rw [bif_t (decide_eq_true a2)]; exact decF (by omega)
 rw [bif_f (decide_eq_false a2)];by_cases a3:c.1 > 3
 ·rw [bif_t (decide_eq_true a3)]; exact decF (by omega)
 rw [bif_f (decide_eq_false a3)];rcases (Classical.em (c.2.2.1.1=max c.1 0)).symm with a4 | a4
 ·rw [bif_t (by simpa using a4)]; exact decF (fun h=>a4 h.2.2.2.1)
 rw [bif_f (by simpa using a4),Yiu _ h1];simp only [Option.bind_some];rcases (Classical.em (wOK c.2.2.2.2.2.1)).symm with a5 | a5
 ·rw [bif_t (by simpa using a5)]; exact decF (fun h=>a5 h.2.2.2.2.1)
 rw [bif_f (by simpa using a5),Yiu _ h2];simp only [Option.bind_some];rcases (Classical.em (wOK c.2.2.2.2.2.2)).symm with a6 | a6
 ·rw [bif_t (by simpa using a6)]; exact decF (fun h=>a6 h.2.2.2.2.2.1)
 rw [bif_f (by simpa using a6)];by_cases a7:c.2.2.2.1 < 0
 ·rw [bif_t (decide_eq_true a7)]; exact decF (by omega)
 rw [bif_f (decide_eq_false a7)];by_cases a8:c.2.2.2.1 > 1048576
 ·rw [bif_t (decide_eq_true a8)]; exact decF (by omega)
 rw [bif_f (decide_eq_false a8)];by_cases a9:c.2.2.2.2.1 < 0
 ·rw [bif_t (decide_eq_true a9)]; exact decF (by omega)
 rw [bif_f (decide_eq_false a9)];by_cases a10:c.2.2.2.2.1 > c.2.2.2.1
 ·rw [bif_t (decide_eq_true a10)]; exact decF (by omega)
 have hil:=Y8s c.2.2.1;have hil8:(rItems c.2.2.1).length ≤ 8:=by obtain ⟨_,_,_,_,_,_⟩:=a1; omega
 rw [bif_f (decide_eq_false a10),Ybz _ _ _ (by omega) (by omega) (by omega)];simp only [Option.bind_some];rcases (Classical.em (rItems c.2.2.1=seqI c.2.2.2.2.1 (rItems c.2.2.1).length∧((rItems c.2.2.1).length:Int)=c.2.2.2.1 - c.2.2.2.2.1)).symm with a11 | a11
 ·rw [bif_t (by rw [decide_eq_false a11]; rfl)]; exact decF (fun h=>a11 h.2.2.2.2.2.2.2.2.2.2.1)
 have hcnt:(((rItems c.2.2.1).length:Nat):Int)=c.2.2.1.2.2.2:=by obtain ⟨_,_,_,_,_,_⟩:=a1; omega
 rw [bif_f (by simpa using a11)]
 have done:∀ {q:Prop} [Decidable q] {b:Option Bool},(b=some (decide (Ygs c)))→b=some (decide (rOK c.2.2.1∧-1 ≤ c.1∧c.1 ≤ 3∧c.2.2.1.1=max c.1 0∧wOK c.2.2.2.2.2.1∧wOK c.2.2.2.2.2.2∧0 ≤ c.2.2.2.1∧c.2.2.2.1 ≤ 1048576∧0 ≤ c.2.2.2.2.1∧c.2.2.2.2.1 ≤ c.2.2.2.1 ∧
   (rItems c.2.2.1=seqI c.2.2.2.2.1 (rItems c.2.2.1).length∧((rItems c.2.2.1).length:Int)=c.2.2.2.1 - c.2.2.2.2.1)∧Ygs c)):=by
  intro _ _ b hb;rw [hb];exact decE ⟨fun h=>⟨a1,by omega,by omega,a4,a5,a6,by omega,by omega,by omega,by omega,a11,h⟩,fun h=>h.2.2.2.2.2.2.2.2.2.2.2⟩
 refine done (q:=True) ?_;rw [gt0,gt0,hcnt];unfold Ygs;by_cases b1:c.1 < 0
 ·rw [bif_t (decide_eq_true b1)];simp only [if_pos b1];cases c.2.1 with
  | true=>rfl
  | false =>
   by_cases b2:c.2.2.2.1=0
   ·rw [Bool.not_false,cond_true,bif_t (by simpa using b2)];by_cases b3:c.2.2.2.2.2.1.length=0 <;> by_cases b4:c.2.2.2.2.2.2.length=0 <;> simp [b2,b3,b4]
   ·rw [Bool.not_false,cond_true,bif_f (by simpa using b2)]; exact decF (fun h=>b2 h.2.1)
 ·rw [bif_f (decide_eq_false b1)];simp only [if_neg b1];cases c.2.1 with
  | true =>
   simp only [if_true,cond_true];by_cases b3:c.2.2.2.2.2.1.length=0 <;> by_cases b4:c.2.2.2.2.2.2.length=0 <;> simp [b3,b4]
  | false =>
   have e5:(c.2.2.1.2.2.2 == c.1)=decide (c.2.2.1.2.2.2=c.1):=beqI _ _;have e6:(c.2.2.1.2.2.2 == 0)=decide (c.2.2.1.2.2.2=0):=beqI _ _;simp only [Bool.false_eq_true,if_false,cond_false,Bool.decide_and,Bool.decide_or,e5,e6];generalize decide (c.2.2.2.2.2.1.length=0)=x1;generalize decide (c.2.2.2.2.2.2.length=0)=x2;generalize decide (c.2.2.1.2.2.2=c.1)=x3;generalize decide (c.2.2.1.2.2.2=0)=x4;cases x1 <;> cases x2 <;> cases x3 <;> cases x4 <;> rfl
end Go.Proofs.YthdlpkdojipfhaaGreat.VX.VxM_M
namespace Go.Proofs.YthdlpkdojipfhaaGreat.VX.VxM_M
open Go.Proofs
theorem neg1:Int.negSucc 0=(-1:Int):=rfl
def nobody:W:=(-1,0,0)
def otherP (l:List W) (g:Int):W:=match l.findIdx? (notG g) with | some i=>l.getD i zeroW | none=>nobody
theorem Ycl (l:List W) (c:Ch) (g:Int) (hl:wOK l) (hg:0 ≤ g):Zq (l,c,g)=some (otherP l g,c,g):=by
 unfold Zq otherP;have h64:=hl.2.1;rw [Yj0 l g (by omega),if_pos hl,if_neg (by omega)];cases hf:l.findIdx? (notG g) with
 | none=>rfl
 | some i=>rfl
theorem Ycm {l:List W} {g:Int} (hl:wOK l):((otherP l g).1=-1∧otherP l g=nobody∧l.findIdx? (notG g)=none) ∨ ((otherP l g).1 ≠ -1∧isW (otherP l g)∧otherP l g ∈ l∧∃ i,i < l.length∧l.findIdx? (notG g)=some i∧otherP l g=l.getD i zeroW):=by
 unfold otherP;cases hf:l.findIdx? (notG g) with
 | none=>exact .inl ⟨rfl,rfl,rfl⟩
 | some i =>
  obtain ⟨hi,_⟩:=List.findIdx?_eq_some_iff_getElem.1 hf;have he:l.getD i zeroW=l[i]:=by simp [List.getD,hi]
  have hm:l.getD i zeroW ∈ l:=by rw [he]; exact List.getElem_mem hi
  have hw:=hl.1 _ hm;exact .inr ⟨by have:=hw.1; simp only; omega,hw,hm,i,hi,rfl,rfl⟩
theorem Yit {l:List W} (h:wOK l) (p:W→Bool):wOK (l.filter p):=⟨fun w hw=>h.1 w (List.mem_filter.1 hw).1,Nat.le_trans (List.length_filter_le _ _) h.2.1,List.Sublist.nodup (List.Sublist.map _ List.filter_sublist) h.2.2⟩
def leaveC (c:Ch) (g:Int):Ch:=(c.1,c.2.1,c.2.2.1,c.2.2.2.1,c.2.2.2.2.1,c.2.2.2.2.2.1.filter (notG g),c.2.2.2.2.2.2.filter (notG g))
theorem Yj1 (c:Ch) (g k:Int) (h1:wOK c.2.2.2.2.2.1) (h2:wOK c.2.2.2.2.2.2) (hg:0 ≤ g):Zo (g,c,k)=some (leaveC c g,k):=by
 unfold Zo;have a1:=h1.2.1;have a2:=h2.2.1;simp only;rw [Yiz _ _ (by omega),Yiz _ _ (by omega),if_pos h1,if_pos h2,if_neg (by omega),if_neg (by omega)];rfl
theorem Y98 {c:Ch} (h:chOK c) (g:Int):chOK (leaveC c g):=by
 obtain ⟨a1,a2,a3,a4,a5,a6,a7,a8,a9,a10,a11,a12⟩:=h;refine ⟨a1,a2,a3,a4,Yit a5 _,Yit a6 _,a7,a8,a9,a10,a11,?_⟩;have l1:=List.length_filter_le (notG g) c.2.2.2.2.2.1;have l2:=List.length_filter_le (notG g) c.2.2.2.2.2.2;unfold Ygs at a12 ⊢
 show if c.1 < 0 then c.2.1=false∧c.2.2.2.1=0∧(c.2.2.2.2.2.1.filter (notG g)).length=0∧(c.2.2.2.2.2.2.filter (notG g)).length=0 else
  if c.2.1=true then (c.2.2.2.2.2.1.filter (notG g)).length=0∧(c.2.2.2.2.2.2.filter (notG g)).length=0 else ((c.2.2.2.2.2.1.filter (notG g)).length=0 ∨ c.2.2.1.2.2.2=c.1)∧((c.2.2.2.2.2.2.filter (notG g)).length=0 ∨ c.2.2.1.2.2.2=0)
 split
 ·rename_i h; rw [if_pos h] at a12; exact ⟨a12.1,a12.2.1,by omega,by omega⟩
 ·rename_i h; rw [if_neg h] at a12;split
  ·rename_i h2; rw [if_pos h2] at a12; exact ⟨by omega,by omega⟩
  ·rename_i h2; rw [if_neg h2] at a12;exact ⟨a12.1.imp (fun e=>by omega) id,a12.2.imp (fun e=>by omega) id⟩
theorem len1 {c:Ch} (h:chOK c):c.2.2.2.2.2.1.length ≤ 64:=h.2.2.2.2.1.2.1
theorem len2 {c:Ch} (h:chOK c):c.2.2.2.2.2.2.length ≤ 64:=h.2.2.2.2.2.1.2.1
theorem Y3o (c:Ch) (g:Int) (h1:c.2.2.2.2.2.1.length < 4611686018427387904) (h2:c.2.2.2.2.2.2.length < 4611686018427387904):Z2 (c,g)=some (if chOK c then (if g < 0 then (zeroC,1) else (leaveC c g,0)) else (zeroC,1)):=by
 unfold Z2;simp only;rw [Y2w c h1 h2];simp only [Option.bind_some];by_cases h:chOK c
 ·rw [decide_eq_true h,if_pos h,bif_f (by rfl)];by_cases hg:g < 0
  ·rw [bif_t (decide_eq_true hg),if_pos hg]; rfl
  ·rw [bif_f (decide_eq_false hg),if_neg hg,Yj1 c g g h.2.2.2.2.1 h.2.2.2.2.2.1 (by omega)]; rfl
 ·rw [decide_eq_false h,if_neg h]; rfl
def closeC (c:Ch):Ch × List W × Bool:=if c.1 < 0 ∨ c.2.1=true ∨ c.2.2.2.2.2.1.length ≠ 0 then (c,[],true) else ((c.1,true,c.2.2.1,c.2.2.2.1,c.2.2.2.2.1,c.2.2.2.2.2.1,[]),c.2.2.2.2.2.2,false)
theorem Y3v (c:Ch) (h1:c.2.2.2.2.2.1.length < 4611686018427387904) (h2:c.2.2.2.2.2.2.length < 4611686018427387904):Z0 c=some (if chOK c then ((closeC c).1,(closeC c).2.1,(closeC c).2.2,0) else (zeroC,[],false,1)):=by
 unfold Z0;rw [Y2w c h1 h2];simp only [Option.bind_some];by_cases h:chOK c
 ·rw [decide_eq_true h,if_pos h,bif_f (by rfl)];unfold closeC;by_cases b1:c.1 < 0
  ·rw [bif_t (decide_eq_true b1),if_pos (.inl b1)]
  rw [bif_f (decide_eq_false b1)];cases b2:c.2.1 with
  | true=>rw [cond_true,if_pos (.inr (.inl rfl))]
  | false =>
   rw [cond_false,gt0];by_cases b3:c.2.2.2.2.2.1.length=0
   ·rw [decide_eq_true b3,if_neg (by simp [b1,b3])]; rfl
   ·rw [decide_eq_false b3,if_pos (.inr (.inr b3))]; rfl
 ·rw [decide_eq_false h,if_neg h]; rfl
def readyC (c:Ch) (send:Bool) (g:Int):Bool:=if c.1 < 0 then false else if c.2.1=true then true else if send=true then decide (c.2.2.1.2.2.2 ≠ c.2.2.1.1) || (c.2.2.2.2.2.2.findIdx? (notG g)).isSome else decide (c.2.2.1.2.2.2 > 0) || (c.2.2.2.2.2.1.findIdx? (notG g)).isSome
theorem Ycn {l:List W} (g:Int) (hl:wOK l):((otherP l g).1 != -1)=(l.findIdx? (notG g)).isSome:=by
 rcases Ycm (g:=g) hl with ⟨h1,_,h3⟩ | ⟨h1,_,_,i,_,h3,_⟩
 ·rw [h3,h1]; rfl
 ·rw [h3]; simpa using h1
theorem Ye4 (c:Ch) (s:Bool) (g:Int) (h1:c.2.2.2.2.2.1.length < 4611686018427387904) (h2:c.2.2.2.2.2.2.length < 4611686018427387904):Z6 (c,s,g)=some (if chOK c then (if g < 0 then (false,1) else (readyC c s g,0)) else (false,1)):=by
 unfold Z6 Zl Zi;simp only;rw [Y2w c h1 h2];simp only [Option.bind_some];by_cases h:chOK c
 ·rw [decide_eq_true h,if_pos h,bif_f (by rfl)];by_cases hg:g < 0
  ·rw [bif_t (decide_eq_true hg),if_pos hg]
  rw [bif_f (decide_eq_false hg),if_neg hg];unfold readyC;by_cases b1:c.1 < 0
  ·rw [bif_t (decide_eq_true b1),if_pos b1]
  rw [bif_f (decide_eq_false b1),if_neg b1];cases b2:c.2.1 with
  | true=>rw [cond_true,if_pos rfl]
  | false =>
   rw [cond_false,if_neg (by simp)];cases s with
   | true =>
    rw [cond_true,if_pos rfl];by_cases b3:c.2.2.1.2.2.2=c.2.2.1.1
    ·rw [bif_f (by simpa using b3),Ycl _ _ _ h.2.2.2.2.2.1 (by omega)];simp only [Option.bind_some];rw [neg1,Ycn _ h.2.2.2.2.2.1,decide_eq_false (by simpa using b3)]; rfl
    ·rw [bif_t (by simpa using b3),decide_eq_true b3]; rfl
   | false =>
    rw [cond_false,if_neg (by simp)];by_cases b3:c.2.2.1.2.2.2 > 0
    ·rw [bif_t (decide_eq_true b3),decide_eq_true b3]; rfl
    ·rw [bif_f (decide_eq_false b3),decide_eq_false b3,Ycl _ _ _ h.2.2.2.2.1 (by omega)];simp only [Option.bind_some];rw [neg1,Ycn _ h.2.2.2.2.1]; rfl
 ·rw [decide_eq_false h,if_neg h]; rfl
structure SameC (a b:Ch):Prop where
 cap:a.1=b.1
 closed:a.2.1=b.2.1
 sent:a.2.2.2.1=b.2.2.2.1
 got:a.2.2.2.2.1=b.2.2.2.2.1
 sends:a.2.2.2.2.2.1=b.2.2.2.2.2.1
 recvs:a.2.2.2.2.2.2=b.2.2.2.2.2.2
 oka:rOK a.2.2.1
 okb:rOK b.2.2.1
 bcap:a.2.2.1.1=b.2.2.1.1
 items:rItems a.2.2.1=rItems b.2.2.1
theorem SameC.refl {a:Ch} (h:rOK a.2.2.1):SameC a a:=⟨rfl,rfl,rfl,rfl,rfl,rfl,h,h,rfl,rfl⟩
end Go.Proofs.YthdlpkdojipfhaaGreat.VX.VxM_M
namespace Go.Proofs.YthdlpkdojipfhaaGreat.VX.VxM_M
open Go.Proofs
def newC (n:Int):Ch:=(n,false,(max n 0,0,List.replicate (max n 0).toNat 0,0),0,0,[],[])
theorem Y3x (n:Int):Z4 n=some (if n < -1 ∨ n > 3 then (zeroC,2) else (newC n,0)):=by
 unfold Z4;by_cases h1:n < -1
 ·rw [neg1,bif_t (decide_eq_true h1),if_pos (.inl h1)]; rfl
 by_cases h2:n > 3
 ·rw [neg1,bif_f (decide_eq_false h1),bif_t (decide_eq_true h2),if_pos (.inr h2)]; rfl
 rw [neg1,bif_f (decide_eq_false h1),bif_f (decide_eq_false h2),if_neg (by omega),new_eq,if_neg (by omega)];rfl
theorem Ybl (n:Int) (h2:n ≤ 3):rOK (newC n).2.2.1:=new_ok (by omega) (by omega)
def passC (c:Ch):Ch:=(c.1,c.2.1,c.2.2.1,c.2.2.2.1+1,c.2.2.2.2.1+1,c.2.2.2.2.2.1,c.2.2.2.2.2.2)
def pushC (c:Ch):Ch:=(c.1,c.2.1,pushed c.2.2.1 c.2.2.2.1,c.2.2.2.1+1,c.2.2.2.2.1,c.2.2.2.2.2.1,c.2.2.2.2.2.2)
def popC (c:Ch):Ch:=(c.1,c.2.1,popped c.2.2.1,c.2.2.2.1,c.2.2.2.2.1+1,c.2.2.2.2.2.1,c.2.2.2.2.2.2)
theorem Yd1 (c:Ch) (k:Int) (h1:0 ≤ c.2.2.2.1∧c.2.2.2.1 ≤ 1048576) (h2:0 ≤ c.2.2.2.2.1∧c.2.2.2.2.1 ≤ 1048576):Zs (c,k)=some (c.2.2.2.1,passC c,k):=by
 unfold Zs;simp only;rw [wrapI (by omega) (by omega),wrapI (by omega) (by omega)]; rfl
theorem Yj5 (c:Ch) (k:Int) (h:rOK c.2.2.1) (hf:c.2.2.1.2.2.2 ≠ c.2.2.1.1) (h1:0 ≤ c.2.2.2.1∧c.2.2.2.1 ≤ 1048576):Zw (c,k)=some (c.2.2.2.1,pushC c,k):=by
 unfold Zw;simp only;rw [Ydo,if_pos h,if_neg hf];simp only [Option.bind_some];rw [wrapI (by omega) (by omega)]; rfl
theorem Yj3 (c:Ch) (k:Int) (h:rOK c.2.2.1) (hf:c.2.2.1.2.2.2 ≠ 0) (h1:0 ≤ c.2.2.2.2.1∧c.2.2.2.2.1 ≤ 1048576):Zu (c,k)=some (first c.2.2.1,popC c,k):=by
 unfold Zu;simp only;rw [pop_eq,if_pos h,if_neg hf];simp only [Option.bind_some];rw [wrapI (by omega) (by omega)]; rfl
def pushW (l:List W) (w:W):List W × Int:=if keyW w ∈ l.map keyW then ([],7) else if l.length=64 then ([],5) else (l++[w],0)
theorem Ydm (l:List W) (w:W) (hl:wOK l) (hw:isW w):Z8y (l,w)=some (pushW l w):=by
 have:=hl.2.1;rw [Yj4 l w (by omega),if_pos hl,if_pos hw]; rfl
def outS (c:Ch) (w:W):Ch × Ou × Int:=if (pushW c.2.2.2.2.2.1 w).2=0 then ((c.1,c.2.1,c.2.2.1,c.2.2.2.1,c.2.2.2.2.1,(pushW c.2.2.2.2.2.1 w).1,c.2.2.2.2.2.2),(0,0,nobody,0),0) else (zeroC,zeroOu,(pushW c.2.2.2.2.2.1 w).2)
def outR (c:Ch) (w:W):Ch × Ou × Int:=if (pushW c.2.2.2.2.2.2 w).2=0 then ((c.1,c.2.1,c.2.2.1,c.2.2.2.1,c.2.2.2.2.1,c.2.2.2.2.2.1,(pushW c.2.2.2.2.2.2 w).1),(0,0,nobody,0),0) else (zeroC,zeroOu,(pushW c.2.2.2.2.2.2 w).2)
def sendC (c:Ch) (w:W):Ch × Ou × Int :=
 if c.1 < 0 then (c,(0,0,nobody,0),0) else if c.2.1=true then (c,(3,0,nobody,0),0) else
 match c.2.2.2.2.2.2.findIdx? (notG w.1) with
 | some i=>if c.2.2.2.1=1048576 then (zeroC,zeroOu,5) else (passC (leaveC c (c.2.2.2.2.2.2.getD i zeroW).1),(1,c.2.2.2.1,c.2.2.2.2.2.2.getD i zeroW,c.2.2.2.1),0)
 | none=>if c.2.2.1.2.2.2=c.2.2.1.1 then outS c w else if c.2.2.2.1=1048576 then (zeroC,zeroOu,5) else (pushC c,(1,c.2.2.2.1,nobody,0),0)
theorem Y8q (w:W):Ze w=some (decide (isW w)):=by
 simp only [Ze,isW,cond_eq_ite,decide_eq_true_eq]
 repeat' split
 all_goals first | exact decF (by omega) | exact decT (by omega) | exact decE (by omega)
theorem Ygc (c:Ch) (w:W) (h1:c.2.2.2.2.2.1.length < 4611686018427387904) (h2:c.2.2.2.2.2.2.length < 4611686018427387904):Zc (c,w)=some (if chOK c∧isW w then sendC c w else (zeroC,zeroOu,1)):=by
 unfold Zc Zl Zi;simp only;rw [Y2w c h1 h2,Y8q];simp only [Option.bind_some];rcases (Classical.em (chOK c)).symm with h | h
 ·rw [decide_eq_false h,if_neg (fun e=>h e.1)]; rfl
 rw [decide_eq_true h,bif_f (by rfl)];rcases (Classical.em (isW w)).symm with hw | hw
 ·rw [decide_eq_false hw,if_neg (fun e=>hw e.2)]; rfl
 rw [decide_eq_true hw,bif_f (by rfl),if_pos ⟨h,hw⟩];obtain ⟨a1,a2,a3,a4,a5,a6,a7,a8,a9,a10,a11,a12⟩:=h;rw [Ycl _ _ _ a6 hw.1];simp only [Option.bind_some];unfold sendC;by_cases b1:c.1 < 0
 ·rw [bif_t (decide_eq_true b1),if_pos b1]; rfl
 rw [bif_f (decide_eq_false b1),if_neg b1];cases b2:c.2.1 with
 | true=>rw [cond_true,if_pos rfl]; rfl
 | false =>
  rw [cond_false,if_neg (by simp)];rcases Ycm (g:=w.1) a6 with ⟨e1,e2,e3⟩ | ⟨e1,e2,e3,i,e4,e5,e6⟩
  ·rw [e3,e2,bif_f (by rfl)];simp only;by_cases b3:c.2.2.1.2.2.2=c.2.2.1.1
   ·rw [if_pos b3,bif_f (by simpa using b3),bif_f (by rfl),bif_f (by simpa using b3),Ydm _ _ a5 hw];simp only [Option.bind_some];unfold outS;by_cases b4:(pushW c.2.2.2.2.2.1 w).2=0
    ·rw [bif_f (by simpa using b4),if_pos b4,b2]
    ·rw [bif_t (by simpa using b4),if_neg b4]; rfl
   ·rw [if_neg b3,bif_t (by simpa using b3)];by_cases b4:c.2.2.2.1=1048576
    ·rw [bif_t (by simpa using b4),if_pos b4]; rfl
    ·rw [bif_f (by simpa using b4),if_neg b4,bif_f (by rfl),bif_t (by simpa using b3),Yj5 _ _ a1 b3 ⟨a7,a8⟩];rfl
  ·rw [e5,bif_t (by simpa using e1)];simp only;by_cases b4:c.2.2.2.1=1048576
   ·rw [bif_t (by simpa using b4),if_pos b4]; rfl
   ·rw [bif_f (by simpa using b4),if_neg b4,bif_t (by simpa using e1),Yj1 _ _ _ a5 a6 e2.1];simp only [Option.bind_some];rw [Yd1 (leaveC c (otherP c.2.2.2.2.2.2 w.1).1) w.1 ⟨a7,a8⟩ (show 0 ≤ c.2.2.2.2.1∧c.2.2.2.2.1 ≤ 1048576 by omega),e6];rfl
def recvC (c:Ch) (w:W):Ch × Ou × Int :=
 match c.2.2.2.2.2.1.findIdx? (notG w.1) with
 | some i=>if c.2.2.2.1=1048576 then (zeroC,zeroOu,5) else
  if c.2.2.1.2.2.2 > 0 then (pushC (popC (leaveC c (c.2.2.2.2.2.1.getD i zeroW).1)),(1,first c.2.2.1,c.2.2.2.2.2.1.getD i zeroW,c.2.2.2.1),0)
  else (passC (leaveC c (c.2.2.2.2.2.1.getD i zeroW).1),(1,c.2.2.2.1,c.2.2.2.2.2.1.getD i zeroW,c.2.2.2.1),0)
 | none=>if c.1 < 0 then (c,(0,0,nobody,0),0) else if c.2.2.1.2.2.2 > 0 then (popC c,(1,first c.2.2.1,nobody,0),0) else if c.2.1=true then (c,(2,0,nobody,0),0) else outR c w
theorem Ye8 (c:Ch) (w:W) (h1:c.2.2.2.2.2.1.length < 4611686018427387904) (h2:c.2.2.2.2.2.2.length < 4611686018427387904):Z8 (c,w)=some (if chOK c∧isW w then recvC c w else (zeroC,zeroOu,1)):=by
 unfold Z8 Zl;simp only;rw [Y2w c h1 h2,Y8q];simp only [Option.bind_some];rcases (Classical.em (chOK c)).symm with h | h
 ·rw [decide_eq_false h,if_neg (fun e=>h e.1)]; rfl
 rw [decide_eq_true h,bif_f (by rfl)];rcases (Classical.em (isW w)).symm with hw | hw
 ·rw [decide_eq_false hw,if_neg (fun e=>hw e.2)]; rfl
 rw [decide_eq_true hw,bif_f (by rfl),if_pos ⟨h,hw⟩];have hh:=h;obtain ⟨a1,a2,a3,a4,a5,a6,a7,a8,a9,a10,a11,a12⟩:=h;rw [Ycl _ _ _ a5 hw.1];simp only [Option.bind_some];unfold recvC
 have hcnt:c.2.2.1.2.2.2=c.2.2.2.1 - c.2.2.2.2.1:=by
  have:=Y8s c.2.2.1;have:=a11.2;obtain ⟨_,_,_,_,_,_⟩:=a1; omega
 rcases Ycm (g:=w.1) a5 with ⟨e1,e2,e3⟩ | ⟨e1,e2,e3,i,e4,e5,e6⟩
 ·rw [e3,e2,bif_f (by rfl)];simp only;by_cases b1:c.1 < 0
  ·rw [bif_t (decide_eq_true b1),if_pos b1]
  rw [bif_f (decide_eq_false b1),if_neg b1];by_cases b3:c.2.2.1.2.2.2 > 0
  ·rw [bif_t (decide_eq_true b3),if_pos b3,Yj3 _ _ a1 (by omega) ⟨a9,by omega⟩];simp only [Option.bind_some];rw [bif_f (by rfl)]
  ·rw [bif_f (decide_eq_false b3),if_neg b3,bif_f (by rfl)];cases b2:c.2.1 with
   | true=>rw [cond_true,if_pos rfl]
   | false =>
    rw [cond_false,if_neg (by simp),Ydm _ _ a6 hw];simp only [Option.bind_some];unfold outR;by_cases b4:(pushW c.2.2.2.2.2.2 w).2=0
    ·rw [bif_f (by simpa using b4),if_pos b4]; rw [b2]
    ·rw [bif_t (by simpa using b4),if_neg b4]; rfl
 ·rw [e5,bif_t (by simpa using e1)];simp only;have hne:c.2.2.2.2.2.1.length ≠ 0:=by omega
  have hcap:¬ c.1 < 0:=by
   intro e;unfold Ygs at a12;rw [if_pos e] at a12;exact hne a12.2.2.1
  by_cases b4:c.2.2.2.1=1048576
  ·rw [bif_t (by simpa using b4),if_pos b4]; rfl
  ·rw [bif_f (by simpa using b4),if_neg b4,Yj1 _ _ _ a5 a6 e2.1];simp only [Option.bind_some];rw [bif_f (show decide ((leaveC c (otherP c.2.2.2.2.2.1 w.1).1).1 < 0)=false from decide_eq_false hcap)];by_cases b3:c.2.2.1.2.2.2 > 0
   ·rw [bif_t (show decide ((leaveC c (otherP c.2.2.2.2.2.1 w.1).1).2.2.1.2.2.2 > 0)=true from decide_eq_true b3),if_pos b3,Yj3 (leaveC c (otherP c.2.2.2.2.2.1 w.1).1) w.1 (show rOK c.2.2.1 from a1) (show c.2.2.1.2.2.2 ≠ 0 by omega) (show 0 ≤ c.2.2.2.2.1∧c.2.2.2.2.1 ≤ 1048576 by omega)];simp only [Option.bind_some];rw [bif_t (by simpa using e1),Yj5 (popC (leaveC c (otherP c.2.2.2.2.2.1 w.1).1)) w.1 (show rOK (popped c.2.2.1) from Ydj a1 (by omega)) (show c.2.2.1.2.2.2 - 1 ≠ c.2.2.1.1 by have:=a1.2.2.2.2.1; omega) ⟨a7,a8⟩,e6];rfl
   ·rw [bif_f (show decide ((leaveC c (otherP c.2.2.2.2.2.1 w.1).1).2.2.1.2.2.2 > 0)=false from decide_eq_false b3),if_neg b3,bif_t (by simpa using e1),Yd1 (leaveC c (otherP c.2.2.2.2.2.1 w.1).1) w.1 ⟨a7,a8⟩ (show 0 ≤ c.2.2.2.2.1∧c.2.2.2.2.1 ≤ 1048576 by omega),e6];rfl
end Go.Proofs.YthdlpkdojipfhaaGreat.VX.VxM_M
namespace Go.Proofs.YthdlpkdojipfhaaGreat.VX.VxM_M
open Go.Proofs
theorem Ygi (a:Int) (n:Nat):seqI a n++[a+(n:Int)]=seqI a (n+1):=by
 unfold seqI;rw [List.range_succ,List.map_append]; rfl
theorem Ygf (a:Int) (n:Nat):seqI a (n+1)=a :: seqI (a+1) n:=by
 unfold seqI;rw [List.range_succ_eq_map,List.map_cons,List.map_map];congr 1
 ·simp
 ·refine List.map_congr_left fun i _=>?_
  simp; omega
end Go.Proofs.YthdlpkdojipfhaaGreat.VX.VxM_M
namespace Go.Proofs.YthdlpkdojipfhaaGreat.VX.VxM_M
open Go.Proofs
abbrev Lk:=Bool × List W
def lOK (l:Lk):Prop:=wOK l.2∧(l.1=true ∨ l.2.length=0)
instance (l:Lk):Decidable (lOK l):=by unfold lOK; infer_instance
theorem Y90 (l:Lk) (hl:l.2.length < 4611686018427387904):Z10 l=some (decide (lOK l)):=by
 unfold Z10;rw [Yiu _ hl];simp only [Option.bind_some];by_cases h:wOK l.2
 ·rw [bif_t (by simpa using h)];cases hb:l.1 with
  | true=>exact decT ⟨h,.inl hb⟩
  | false =>
   simp only [cond_false];by_cases h0:l.2.length=0
   ·rw [h0]; exact decT ⟨h,.inr h0⟩
   ·rw [show ((l.2.length:Int) == 0)=false from beq_eq_false_iff_ne.2 (by omega)];exact decF fun h2=>h2.2.elim (fun e=>by rw [hb] at e; cases e) h0
 ·rw [bif_f (by simpa using h)];exact decF fun h2=>h h2.1
def pushL (l:List W) (w:W):List W × Int:=if wOK l then (if isW w then (if keyW w ∈ l.map keyW then ([],7) else if l.length=64 then ([],5) else (l++[w],0)) else ([],1)) else ([],1)
theorem Yi2 (l:Lk) (w:W) (hl:l.2.length < 4611686018427387904):Z12 (l,w)=some (if lOK l∧isW w then (if l.1=false then ((true,[]),true,0) else if (pushL l.2 w).2=0 then ((true,(pushL l.2 w).1),false,0) else ((false,[]),false,(pushL l.2 w).2)) else ((false,[]),false,1)):=by
 unfold Z12 Z14;simp only;rw [Yj4 _ _ hl,Y90 _ hl];simp only [Option.bind_some];by_cases h:lOK l
 ·have hw:=h.1;rw [bif_f (by simpa using h)];by_cases h2:isW w
  ·rw [if_pos (show lOK l∧isW w from ⟨h,h2⟩)];unfold pushL;rw [if_pos hw,if_pos h2];by_cases h3:keyW w ∈ l.2.map keyW
   ·rw [if_pos h3];cases hb:l.1 <;> rfl
   ·rw [if_neg h3];by_cases h4:l.2.length=64
    ·rw [if_pos h4];cases hb:l.1 <;> rfl
    ·rw [if_neg h4];cases hb:l.1 <;> rfl
  ·rw [if_neg (show ¬ (lOK l∧isW w) from fun e=>h2 e.2),if_pos hw,if_neg h2];rfl
 ·rw [bif_t (by simpa using h),if_neg (show ¬ (lOK l∧isW w) from fun e=>h e.1)]
end Go.Proofs.YthdlpkdojipfhaaGreat.VX.VxM_M
namespace Go.Proofs.YthdlpkdojipfhaaGreat.VX.VxM_M
open Go.Proofs
def given:List W→Lk × W × Bool
 | []=>((false,[]),zeroW,false)
 | w :: t=>((true,t),w,true)
theorem Y7l (l:Lk) (hl:l.2.length < 4611686018427387904):Zy l=some (if lOK l then (if l.1=false then ((false,[]),zeroW,false,6) else ((given l.2).1,(given l.2).2.1,(given l.2).2.2,0)) else ((false,[]),zeroW,false,1)):=by
 unfold Zy Z14;rw [Y90 _ hl];simp only [Option.bind_some];by_cases h:lOK l
 ·rw [bif_f (by simpa using h),if_pos h];cases hb:l.1 with
  | false=>rfl
  | true =>
   rw [bif_f (by rfl),if_neg (by simp)];cases hq:l.2 with
   | nil=>rfl
   | cons w t =>
    rw [bif_f (by simp; omega),bif_t (sub3L.2 (by simp; omega)),bif_t (inbL.2 (by simp))];have:cut (w :: t) (toN 1) (toN ((w :: t).length:Int) - toN 1)=t:=by simp [cut,toN]
    rw [this]; rfl
 ·rw [bif_t (by simpa using h),if_neg h]; rfl
end Go.Proofs.YthdlpkdojipfhaaGreat.VX.VxM_M
namespace Go.Proofs.YthdlpkdojipfhaaGreat.VX.VxM_M
open Go.Proofs
abbrev On:=Int × (Int × List W)
def zeroO:On:=(0,0,[])
def oOK (o:On):Prop:=0 ≤ o.2.1∧wOK o.2.2∧((o.1=1∧∀ w ∈ o.2.2,w.1 ≠ o.2.1) ∨ ((o.1=0 ∨ o.1=2)∧o.2.1=0∧o.2.2.length=0))
instance (o:On):Decidable (oOK o):=by unfold oOK; infer_instance
theorem flen {l:List W} {g:Int}:((((l.filter (notG g)).length:Nat):Int) == ((l.length:Nat):Int))=decide (∀ w ∈ l,w.1 ≠ g):=by
 have h:(l.filter (notG g)).length=l.length ↔ ∀ w ∈ l,w.1 ≠ g:=by
  rw [List.length_filter_eq_length_iff];constructor
  ·intro h w hw; have:=h w hw; unfold notG at this; simpa using this
  ·intro h w hw; have:=h w hw; unfold notG; simpa using this
 by_cases e:(l.filter (notG g)).length=l.length
 ·rw [decide_eq_true (h.1 e)]; simp [e]
 ·rw [decide_eq_false (fun q=>e (h.2 q))]; simp; omega
theorem Yc0 (o:On) (hl:o.2.2.length < 4611686018427387904):Z3j o=some (decide (oOK o)):=by
 unfold Z3j oOK;rw [Yiu _ hl];simp only [Option.bind_some];by_cases h1:o.2.1 < 0
 ·rw [bif_t (by simpa using h1)]; exact decF (by omega)
 ·rw [bif_f (by simpa using h1)];by_cases h2:wOK o.2.2
  ·rw [bif_f (by simpa using h2)];by_cases h3:o.1=1
   ·rw [bif_t (by simpa using h3),Yiz _ _ hl,if_pos h2,if_neg h1];simp only [Option.bind_some];rw [flen];exact decE ⟨fun h=>⟨by omega,h2,.inl ⟨h3,h⟩⟩,fun h=>h.2.2.elim (·.2) (fun h=>by omega)⟩
   ·rw [bif_f (by simpa using h3)]
    have hz:((((o.2.2.length:Nat):Int)) == 0)=decide (o.2.2.length=0):=by
     by_cases e:o.2.2.length=0
     ·rw [decide_eq_true e,e]; rfl
     ·rw [decide_eq_false e]; simp; exact fun h=>e (by simp [h])
    by_cases h4:o.1=0
    ·rw [bif_t (by simpa using h4)];by_cases h5:o.2.1=0
     ·rw [bif_t (by simpa using h5),hz]; exact decE ⟨fun h=>⟨by omega,h2,.inr ⟨.inl h4,h5,h⟩⟩,fun h=>h.2.2.elim (fun h=>by omega) (fun h=>h.2.2)⟩
     ·rw [bif_f (by simpa using h5)]; exact decF (fun h=>h.2.2.elim (fun h=>by omega) (fun h=>h5 h.2.1))
    ·rw [bif_f (by simpa using h4)];by_cases h6:o.1=2
     ·rw [bif_t (by simpa using h6)];by_cases h5:o.2.1=0
      ·rw [bif_t (by simpa using h5),hz]; exact decE ⟨fun h=>⟨by omega,h2,.inr ⟨.inr h6,h5,h⟩⟩,fun h=>h.2.2.elim (fun h=>by omega) (fun h=>h.2.2)⟩
      ·rw [bif_f (by simpa using h5)]; exact decF (fun h=>h.2.2.elim (fun h=>by omega) (fun h=>h5 h.2.1))
     ·rw [bif_f (by simpa using h6)]; exact decF (fun h=>h.2.2.elim (fun h=>by omega) (fun h=>by omega))
  ·rw [bif_t (by simpa using h2)]; exact decF (fun h=>h2 h.2.1)
def done (o:On) (w:W):On × Int × Int:=if o.1=0 then ((1,w.1,[]),0,0) else if o.1=2 then (o,2,0) else if o.2.1=w.1 then (zeroO,0,6) else if (pushL o.2.2 w).2=0 then ((o.1,o.2.1,(pushL o.2.2 w).1),1,0) else (zeroO,0,(pushL o.2.2 w).2)
theorem do_eq (o:On) (w:W) (hl:o.2.2.length < 4611686018427387904):Z3f (o,w)=some (if oOK o∧isW w then done o w else (zeroO,0,1)):=by
 unfold Z3f;rw [Yc0 _ hl];simp only [Option.bind_some];by_cases h:oOK o
 ·rw [bif_f (by simpa using h)];by_cases h1:w.1 < 0
  ·rw [bif_t (by simpa using h1),if_neg (fun e=>by have:=e.2.1; omega)]; rfl
  rw [bif_f (by simpa using h1)];by_cases h2:w.2.1 < 0
  ·rw [bif_t (by simpa using h2),if_neg (fun e=>by have:=e.2.2.1; omega)]; rfl
  rw [bif_f (by simpa using h2)];by_cases h3:w.2.2 < 0
  ·rw [bif_t (by simpa using h3),if_neg (fun e=>by have:=e.2.2.2; omega)]; rfl
  rw [bif_f (by simpa using h3),if_pos ⟨h,by omega,by omega,by omega⟩];unfold done;by_cases h4:o.1=0
  ·rw [bif_t (by simpa using h4),if_pos h4]; rfl
  rw [bif_f (by simpa using h4),if_neg h4];by_cases h5:o.1=1
  ·rw [bif_t (by simpa using h5),if_neg (by omega)];unfold Z3p;simp only;by_cases h6:o.2.1=w.1
   ·rw [bif_t (by simpa using h6),if_pos h6]; rfl
   ·rw [bif_f (by simpa using h6),if_neg h6,Yj4 _ _ hl];show (Option.bind (Option.bind (some (pushL o.2.2 w)) _) _)=_;simp only [Option.bind_some];by_cases h7:(pushL o.2.2 w).2=0
    ·rw [bif_f (by simpa using h7),if_pos h7]; rfl
    ·rw [bif_t (by simpa using h7),if_neg h7]; rfl
  ·have h6:o.1=2:=by
    rcases h.2.2 with e | e
    ·exact absurd e.1 h5
    ·omega
   rw [bif_f (by simpa using h5),bif_t (by simpa using h6),if_pos h6]; rfl
 ·rw [bif_t (by simpa using h),if_neg (fun e=>h e.1)]; rfl
def ended (o:On) (g:Int):On × List W × Int:=if o.1=1∧o.2.1=g then ((2,0,[]),o.2.2,0) else (zeroO,[],6)
theorem end_eq (o:On) (g:Int) (hl:o.2.2.length < 4611686018427387904):Z3h (o,g)=some (if oOK o∧0 ≤ g then ended o g else (zeroO,[],1)):=by
 unfold Z3h;rw [Yc0 _ hl];simp only [Option.bind_some];by_cases h:oOK o
 ·rw [bif_f (by simpa using h)];by_cases h1:g < 0
  ·rw [bif_t (by simpa using h1),if_neg (by omega)]; rfl
  rw [bif_f (by simpa using h1),if_pos ⟨h,by omega⟩];unfold ended;by_cases h2:o.1=1
  ·rw [bif_f (by simpa using h2)];by_cases h3:o.2.1=g
   ·rw [bif_f (by simpa using h3),if_pos ⟨h2,h3⟩]
   ·rw [bif_t (by simpa using h3),if_neg (fun e=>h3 e.2)]; rfl
  ·rw [bif_t (by simpa using h2),if_neg (fun e=>h2 e.1)]; rfl
 ·rw [bif_t (by simpa using h),if_neg (fun e=>h e.1)]; rfl
end Go.Proofs.YthdlpkdojipfhaaGreat.VX.VxM_M
namespace Go.Proofs.YthdlpkdojipfhaaGreat.VX.VxM_M
open Go.Proofs
abbrev In:=Int × (Int × Int)
abbrev Cs:=Bool × Int
abbrev Sl:=List Cs × Bool
abbrev Pg:=List Int × (Int × (Int × (Int × (List Sl × List (List In)))))
def zIn:In:=(0,0,0)
def zSl:Sl:=([],false)
def inP (n lo hi:Int):Bool:=decide (lo ≤ n) && decide (n ≤ hi)
theorem in_eq (n lo hi:Int):Z4e (n,lo,hi)=some (inP n lo hi):=by
 unfold Z4e inP;simp only;by_cases h:lo ≤ n
 ·rw [bif_t (by simpa using h),decide_eq_true h]; rfl
 ·rw [bif_f (by simpa using h),decide_eq_false h]; rfl
theorem Y32 (l:List Int) (hl:l.length < 9223372036854775808):Z6k l=some (l.any fun n=>!inP n (-1) 3):=by
 unfold Z6k Z78
 have:=Y9t (f:=Zax) l (fun n=>!inP n (-1) 3) (fun k=>(l,(l.length:Int),(k:Int))) (fun k=>.inl (k:Int)) (.inr ()) (by
  intro k hk;unfold Zax Z4v;simp only;rw [bif_t (by simpa using hk),bif_t (Y82 hk),Yif,getAtL _ hk,in_eq];simp only [Option.bind_some];rw [wrapI (by omega) (by omega)];show (bif !inP l[k] (-1) 3 then _ else _)=_;cases h:inP l[k] (-1) 3 <;> rfl) (by
  unfold Zax;simp only;rw [bif_f (by simp)])
 rw [show loop Zax (l,(l.length:Int),(0:Int))=_ from this,← List.findIdx?_isSome];cases l.findIdx? fun n=>!inP n (-1) 3 with
 | none=>rfl
 | some i=>simp
theorem Y3a (l:List Cs) (p:Pg) (hl:l.length < 9223372036854775808) (hp:p.1.length < 9223372036854775808):Z68 (l,p)=some (l.any (fun c=>!inP c.2 0 ((p.1.length:Int) - 1)),p):=by
 unfold Z68 Z6s
 have:=Y9t (f:=Zah) l (fun c=>!inP c.2 0 ((p.1.length:Int) - 1)) (fun k=>(l,(l.length:Int),(k:Int),p)) (fun k=>.inl ((k:Int),p)) (.inr p) (by
  intro k hk;unfold Zah Z4x;simp only;rw [bif_t (by simpa using hk),bif_t (Y82 hk),Yif,getAtL _ hk,in_eq,wrapI (n:=(p.1.length:Int) - 1) (by omega) (by omega)];simp only [Option.bind_some];rw [wrapI (by omega) (by omega)];cases h:inP l[k].2 0 ((p.1.length:Int) - 1) <;> rfl) (by
  unfold Zah;simp only;rw [bif_f (by simp)])
 simp only;rw [show loop Zah (l,(l.length:Int),(0:Int),p)=_ from this,← List.findIdx?_isSome];cases l.findIdx? fun c=>!inP c.2 0 ((p.1.length:Int) - 1) with
 | none=>rfl
 | some i=>simp
def small (p:Pg):Prop:=p.1.length < 9223372036854775808∧p.2.2.2.2.1.length < 9223372036854775808∧p.2.2.2.2.2.length < 9223372036854775808∧(∀ s ∈ p.2.2.2.2.1,s.1.length < 9223372036854775808)∧∀ b ∈ p.2.2.2.2.2,b.length < 9223372036854775808
def Ygu (p:Pg):Bool:=decide (p.1.length ≤ 4) && (inP p.2.1 0 2 && (inP p.2.2.1 0 2 && (inP p.2.2.2.1 0 4 && (decide (p.2.2.2.2.1.length ≤ 4) && inP (p.2.2.2.2.2.length:Int) 1 6))))
def selErr (p:Pg) (k:Nat):Option (Int × Int):=if 4 < (p.2.2.2.2.1.getD k zSl).1.length then some ((k:Int),2) else if (p.2.2.2.2.1.getD k zSl).1.any (fun c=>!inP c.2 0 ((p.1.length:Int) - 1)) then some ((k:Int),3) else none
def Yhz (p:Pg):Int × Int:=if Ygu p=false then (-1,2) else if p.1.any (fun n=>!inP n (-1) 3) then (-1,3) else ((List.range p.2.2.2.2.1.length).findSome? (selErr p)).getD (-1,0)
theorem Y7d {α:Type} {l:List α} {k:Nat} (h:k < l.length) (z:α):l.getD k z=l[k]:=by simp [List.getD,h]
theorem Yi0 (p:Pg) (hs:small p):Z4u p=some (Yhz p):=by
 obtain ⟨s1,s2,s3,s4,s5⟩:=hs
 have hloop:=Y9u (f:=Za9) p.2.2.2.2.1.length (fun k=>(p.2.2.2.2.1,(p.2.2.2.2.1.length:Int),(k:Int),p)) (fun k=>(selErr p k).map .inl) (.inr ()) (by
  intro k hk;unfold Za9;simp only;have hg:getAt (([]:List (Bool × Int)),false) p.2.2.2.2.1 k=p.2.2.2.2.1.getD k zSl:=Y7a _ _ _;have hm:(p.2.2.2.2.1.getD k zSl).1.length < 9223372036854775808:=s4 _ (by rw [Y7d hk]; exact List.getElem_mem hk);rw [bif_t (by simpa using hk),bif_t (Y82 hk),Yif,hg,Y3a _ _ (by omega) (by omega),wrapI (by omega) (by omega)];simp only [Option.bind_some];unfold selErr;by_cases h1:4 < (p.2.2.2.2.1.getD k zSl).1.length
  ·rw [bif_t (decide_eq_true (by omega)),if_pos h1]; rfl
  ·rw [bif_f (decide_eq_false (by omega)),if_neg h1];cases h2:(p.2.2.2.2.1.getD k zSl).1.any (fun c=>!inP c.2 0 ((p.1.length:Int) - 1)) <;> rfl) (by
  unfold Za9;simp only;rw [bif_f (by simp)])
 unfold Z4u Yhz Ygu;simp only [in_eq,Option.bind_some];by_cases h1:p.1.length ≤ 4
 ·rw [bif_t (by simp; omega),decide_eq_true h1];cases h2:inP p.2.1 0 2 with
  | false=>rfl
  | true =>
   cases h3:inP p.2.2.1 0 2 with
   | false=>rfl
   | true =>
    cases h4:inP p.2.2.2.1 0 4 with
    | false=>rfl
    | true =>
     by_cases h5:p.2.2.2.2.1.length ≤ 4
     ·rw [decide_eq_true h5];show (bif decide ((p.2.2.2.2.1.length:Int) > 4) then _ else _)=_;rw [bif_f (by simp; omega)];cases h6:inP (p.2.2.2.2.2.length:Int) 1 6 with
      | false=>rfl
      | true =>
       simp only [Bool.not_true,cond_false,Bool.and_self,Bool.true_eq_false,if_false];rw [Y32 _ (by omega)];simp only [Option.bind_some];cases h7:p.1.any (fun n=>!inP n (-1) 3) with
       | true=>rfl
       | false =>
        simp only [cond_false,Bool.false_eq_true,if_false];rw [show loop Za9 (p.2.2.2.2.1,(p.2.2.2.2.1.length:Int),(0:Int),p)=_ from hloop]
        have:∀ (l:List Nat),l.findSome? (fun k=>(selErr p k).map (Sum.inl (β:=Unit)))=(l.findSome? (selErr p)).map .inl:=by
         intro l;induction l with
         | nil=>rfl
         | cons a l ih =>
          rw [List.findSome?_cons,List.findSome?_cons,ih];cases selErr p a <;> rfl
        rw [this];cases (List.range p.2.2.2.2.1.length).findSome? (selErr p) <;> rfl
     ·rw [decide_eq_false h5];show (bif decide ((p.2.2.2.2.1.length:Int) > 4) then _ else _)=_;rw [bif_t (by simp; omega)]; rfl
 ·rw [bif_f (by simp; omega),decide_eq_false h1]; rfl
def mostP (p:Pg) (b:List In) (op:Int):Int :=
 if op=0 then 1 else if op=1 then p.1.length else if op=2 then p.1.length else if op=3 then p.1.length else if op=4 then p.2.2.2.2.1.length else if op=5 then p.2.1 else if op=6 then p.2.1 else if op=7 then p.2.2.1 else if op=8 then p.2.2.1
 else if op=9 then p.2.2.2.2.2.length else if op=10 then p.2.2.2.1 else if op=11 then p.2.2.2.1 else b.length+1
def instrP (p:Pg) (b:List In) (i:In):Int :=
 if inP i.1 0 13=false then 11 else if inP i.2.1 0 (mostP p b i.1 - 1)=false ∨ inP i.2.2 0 (if i.1=7 then b.length else 0)=false then 3 else 0
def okN (p:Pg):Prop:=(0 ≤ p.2.1∧p.2.1 ≤ 1000)∧(0 ≤ p.2.2.1∧p.2.2.1 ≤ 1000)∧(0 ≤ p.2.2.2.1∧p.2.2.2.1 ≤ 1000)
theorem ops_eq:Z4o ()=some ():=rfl
theorem Y8g (p:Pg) (b:List In) (i:In) (hs:small p) (hn:okN p) (hb:b.length < 4611686018427387904):Z4g (p,b,i)=some (instrP p b i):=by
 obtain ⟨s1,s2,s3,s4,s5⟩:=hs;obtain ⟨n1,n2,n3⟩:=hn;unfold Z4g instrP;simp only [in_eq,Option.bind_some,ops_eq,Z4k,Z4c,Z4s,Z4i,Z4m,Z4a,Z50,Z4q];cases h0:inP i.1 0 13 with
 | false=>rfl
 | true =>
  have hr:0 ≤ i.1∧i.1 ≤ 13:=by unfold inP at h0; simpa using h0
  have fin:∀ (a c:Bool) (X:Option Int),X=(bif !a then some (3:Int) else bif !c then some 3 else some 0)→X=some (if a=false ∨ c=false then 3 else 0):=by
   intro a c X hX; rw [hX]; cases a <;> cases c <;> rfl
  simp only [Bool.not_true,cond_false,Bool.true_eq_false,if_false];have hop:i.1=0 ∨ i.1=1 ∨ i.1=2 ∨ i.1=3 ∨ i.1=4 ∨ i.1=5 ∨ i.1=6 ∨ i.1=7 ∨ i.1=8 ∨ i.1=9 ∨ i.1=10 ∨ i.1=11 ∨ i.1=12 ∨ i.1=13:=by omega
  have w1:IntKind.wrap .i64 ((1:Int) - 1)=0:=wrapI (by omega) (by omega);have w2:IntKind.wrap .i64 ((p.1.length:Int) - 1)=(p.1.length:Int) - 1:=wrapI (by omega) (by omega);have w3:IntKind.wrap .i64 ((p.2.2.2.2.1.length:Int) - 1)=(p.2.2.2.2.1.length:Int) - 1:=wrapI (by omega) (by omega);have w4:IntKind.wrap .i64 (p.2.1 - 1)=p.2.1 - 1:=wrapI (by omega) (by omega);have w5:IntKind.wrap .i64 (p.2.2.1 - 1)=p.2.2.1 - 1:=wrapI (by omega) (by omega);have w6:IntKind.wrap .i64 ((p.2.2.2.2.2.length:Int) - 1)=(p.2.2.2.2.2.length:Int) - 1:=wrapI (by omega) (by omega);have w7:IntKind.wrap .i64 (p.2.2.2.1 - 1)=p.2.2.2.1 - 1:=wrapI (by omega) (by omega);have w8:IntKind.wrap .i64 ((b.length:Int)+1)=(b.length:Int)+1:=wrapI (by omega) (by omega);have w9:IntKind.wrap .i64 ((b.length:Int)+1 - 1)=(b.length:Int)+1 - 1:=wrapI (by omega) (by omega);simp only [w1,w2,w3,w4,w5,w6,w7,w8,w9]
  rcases hop with h | h | h | h | h | h | h | h | h | h | h | h | h | h <;> (rw [h]; exact fin _ _ _ rfl)
def blkErr (p:Pg) (b:Nat):Option (Int × Int × Int):=if 24 < (p.2.2.2.2.2.getD b []).length then some ((b:Int),-1,2) else
 (List.range (p.2.2.2.2.2.getD b []).length).findSome? fun k=>if instrP p (p.2.2.2.2.2.getD b []) ((p.2.2.2.2.2.getD b []).getD k zIn)=0 then none else some ((b:Int),(k:Int),instrP p (p.2.2.2.2.2.getD b []) ((p.2.2.2.2.2.getD b []).getD k zIn))
def wrongP (p:Pg):Int × Int × Int:=if (Yhz p).2=0 then ((List.range p.2.2.2.2.2.length).findSome? (blkErr p)).getD (-1,-1,0) else (-1,(Yhz p).1,(Yhz p).2)
theorem Y63 {α β γ:Type} (f:β→γ) (g:α→Option β):∀ (l:List α),l.findSome? (fun k=>(g k).map f)=(l.findSome? g).map f
 | []=>rfl
 | a :: l=>by
  rw [List.findSome?_cons,List.findSome?_cons,Y63 f g l];cases g a <;> rfl
theorem Ygv {p:Pg} (h:(Yhz p).2=0):Ygu p=true:=by
 unfold Yhz at h;cases hs:Ygu p with
 | true=>rfl
 | false=>rw [hs,if_pos rfl] at h; cases h
theorem Ygw {p:Pg} (h:Ygu p=true):okN p:=by
 unfold Ygu inP at h;simp only [Bool.and_eq_true,decide_eq_true_eq] at h;exact ⟨⟨by omega,by omega⟩,⟨by omega,by omega⟩,⟨by omega,by omega⟩⟩
theorem Yj7 (p:Pg) (hs:small p):Z48 p=some (wrongP p):=by
 unfold Z48 wrongP;rw [Yi0 p hs];simp only [Option.bind_some];by_cases ht:(Yhz p).2=0
 ·rw [bif_f (by simpa using ht),if_pos ht];have hn:=Ygw (Ygv ht);obtain ⟨s1,s2,s3,s4,s5⟩:=hs
  have hout:=Y9u (f:=Za7) p.2.2.2.2.2.length (fun b=>(p.2.2.2.2.2,(p.2.2.2.2.2.length:Int),(b:Int),p)) (fun b=>(blkErr p b).map .inl) (.inr ()) (by
   intro b hb;unfold Za7;simp only;have hg:getAt ([]:List (Int × (Int × Int))) p.2.2.2.2.2 b=p.2.2.2.2.2.getD b []:=Y7a _ _ _;have hm:(p.2.2.2.2.2.getD b []).length < 9223372036854775808:=s5 _ (by rw [Y7d hb]; exact List.getElem_mem hb);rw [bif_t (by simpa using hb),bif_t (Y82 hb),Yif,hg];unfold blkErr;generalize p.2.2.2.2.2.getD b []=bl at *;by_cases h1:24 < bl.length
   ·rw [bif_t (decide_eq_true (by omega)),if_pos h1]; rfl
   ·rw [bif_f (decide_eq_false (by omega)),if_neg h1]
    have hin:=Y9u (f:=Za5) bl.length (fun k=>((b:Int),bl,p.2.2.2.2.2,(p.2.2.2.2.2.length:Int),(b:Int),bl,(bl.length:Int),(k:Int),p)) (fun k=>(if instrP p bl (bl.getD k zIn)=0 then none else some ((b:Int),(k:Int),instrP p bl (bl.getD k zIn))).map .inl) (.inr (p.2.2.2.2.2,(p.2.2.2.2.2.length:Int),(b:Int),p)) (by
     intro k hk;unfold Za5;simp only;have hg:getAt ((0:Int),((0:Int),(0:Int))) bl k=bl.getD k zIn:=Y7a _ _ _;rw [bif_t (by simpa using hk),bif_t (Y82 hk),Yif,hg,Y8g p bl _ ⟨s1,s2,s3,s4,s5⟩ hn (by omega),wrapI (by omega) (by omega)];simp only [Option.bind_some];by_cases h2:instrP p bl (bl.getD k zIn)=0
     ·rw [bif_f (by simp only [h2]; rfl),if_pos h2]; rfl
     ·rw [bif_t (by simpa using h2),if_neg h2]; rfl) (by
     unfold Za5;simp only;rw [bif_f (by simp)])
    rw [show loop Za5 ((b:Int),bl,p.2.2.2.2.2,(p.2.2.2.2.2.length:Int),(b:Int),bl,(bl.length:Int),(0:Int),p)=_ from hin,Y63];cases (List.range bl.length).findSome? (fun k=>if instrP p bl (bl.getD k zIn)=0 then none else some ((b:Int),(k:Int),instrP p bl (bl.getD k zIn))) with
    | none =>
     simp only [Option.map_none,Option.getD_none,Option.bind_some];rw [wrapI (by omega) (by omega)]; rfl
    | some y=>rfl) (by
   unfold Za7;simp only;rw [bif_f (by simp)])
  rw [show loop Za7 (p.2.2.2.2.2,(p.2.2.2.2.2.length:Int),(0:Int),p)=_ from hout,Y63];cases (List.range p.2.2.2.2.2.length).findSome? (blkErr p) <;> rfl
 ·rw [bif_t (by simpa using ht),if_neg ht]; rfl
def rightP (p:Pg):Prop:=(wrongP p).2.2=0
instance (p:Pg):Decidable (rightP p):=by unfold rightP; infer_instance
theorem Yct (p:Pg) (hs:small p):Z46 p=some (decide (rightP p)):=by
 unfold Z46;rw [Yj7 p hs];simp only [Option.bind_some];unfold rightP;by_cases h:(wrongP p).2.2=0
 ·rw [decide_eq_true h,h]; rfl
 ·rw [decide_eq_false h,beq_eq_false_iff_ne.2 h]
theorem Y64 {α β:Type} {g:α→Option β} {l:List α} (h:l.findSome? g=none):∀ x ∈ l,g x=none:=by
 intro x hx;exact List.findSome?_eq_none_iff.1 h x hx
structure RightP (p:Pg):Prop where
 sizes:Ygu p=true
 caps:∀ n ∈ p.1,-1 ≤ n∧n ≤ 3
 sels:∀ s ∈ p.2.2.2.2.1,s.1.length ≤ 4∧∀ c ∈ s.1,0 ≤ c.2∧c.2 < p.1.length
 blks:∀ b ∈ p.2.2.2.2.2,b.length ≤ 24∧∀ i ∈ b,instrP p b i=0
theorem Yan {α:Type} {l:List α} {x:α} (h:x ∈ l) (z:α):∃ k,k < l.length∧l.getD k z=x:=by
 obtain ⟨k,hk,e⟩:=List.mem_iff_getElem.1 h;exact ⟨k,hk,by rw [Y7d hk,e]⟩
theorem Yg4 {p:Pg} {k:Nat} {y:Int × Int} (h:selErr p k=some y):y.2 ≠ 0:=by
 unfold selErr at h;split at h
 ·cases h; show (2:Int) ≠ 0; decide
 ·split at h
  ·cases h; show (3:Int) ≠ 0; decide
  ·cases h
theorem Y2h {p:Pg} {k:Nat} {y:Int × Int × Int} (h:blkErr p k=some y):y.2.2 ≠ 0:=by
 unfold blkErr at h;split at h
 ·cases h; show (2:Int) ≠ 0; decide
 ·obtain ⟨l1,a,l2,h1,h2,h3⟩:=List.findSome?_eq_some_iff.1 h;split at h2
  ·cases h2
  ·cases h2; assumption
theorem Yeo (p:Pg):rightP p ↔ RightP p:=by
 constructor
 ·intro h;unfold rightP wrongP at h;split at h
  ·rename_i ht;have hz:=Ygv ht
   have hb:(List.range p.2.2.2.2.2.length).findSome? (blkErr p)=none:=by
    cases hq:(List.range p.2.2.2.2.2.length).findSome? (blkErr p) with
    | none=>rfl
    | some y =>
     rw [hq] at h;obtain ⟨l1,a,l2,h1,h2,h3⟩:=List.findSome?_eq_some_iff.1 hq;exact absurd h (Y2h h2)
   unfold Yhz at ht;rw [hz,if_neg (by simp)] at ht;cases hc:p.1.any (fun n=>!inP n (-1) 3) with
   | true=>rw [hc,if_pos rfl] at ht; cases ht
   | false =>
    rw [hc,if_neg (by simp)] at ht
    have hsel:(List.range p.2.2.2.2.1.length).findSome? (selErr p)=none:=by
     cases hq:(List.range p.2.2.2.2.1.length).findSome? (selErr p) with
     | none=>rfl
     | some y =>
      rw [hq] at ht;obtain ⟨l1,a,l2,h1,h2,h3⟩:=List.findSome?_eq_some_iff.1 hq;exact absurd ht (Yg4 h2)
    refine ⟨hz,fun n hn=>?_,fun s hs=>?_,fun b hbm=>?_⟩
    ·have:=List.any_eq_false.1 hc n hn;unfold inP at this;simpa using this
    ·obtain ⟨k,hk,e⟩:=Yan hs zSl;have:=Y64 hsel k (List.mem_range.2 hk);unfold selErr at this;rw [e] at this;split at this
     ·cases this
     ·rename_i h4;split at this
      ·cases this
      ·rename_i h5;refine ⟨by omega,fun c hcm=>?_⟩;have h6:s.1.any (fun c=>!inP c.2 0 ((p.1.length:Int) - 1))=false:=by simpa using h5
       have:=List.any_eq_false.1 h6 c hcm;unfold inP at this;simp only [Bool.not_eq_true,Bool.not_eq_false',Bool.and_eq_true,decide_eq_true_eq] at this;omega
    ·obtain ⟨k,hk,e⟩:=Yan hbm [];have:=Y64 hb k (List.mem_range.2 hk);unfold blkErr at this;rw [e] at this;split at this
     ·cases this
     ·rename_i h4;refine ⟨by omega,fun i hi=>?_⟩;obtain ⟨j,hj,e2⟩:=Yan hi zIn;have:=Y64 this j (List.mem_range.2 hj);rw [e2] at this;split at this
      ·assumption
      ·cases this
  ·rename_i ht; exact absurd h ht
 ·rintro ⟨h1,h2,h3,h4⟩
  have hc:p.1.any (fun n=>!inP n (-1) 3)=false:=by
   rw [List.any_eq_false];intro n hn;have:=h2 n hn;unfold inP;simp; omega
  have hsel:(List.range p.2.2.2.2.1.length).findSome? (selErr p)=none:=by
   rw [List.findSome?_eq_none_iff];intro k hk;have hk:=List.mem_range.1 hk;obtain ⟨q1,q2⟩:=h3 (p.2.2.2.2.1.getD k zSl) (by rw [Y7d hk]; exact List.getElem_mem hk);unfold selErr;rw [if_neg (by omega),if_neg]
   have:(p.2.2.2.2.1.getD k zSl).1.any (fun c=>!inP c.2 0 ((p.1.length:Int) - 1))=false:=by
    rw [List.any_eq_false];intro c hcm;have:=q2 c hcm
    have:inP c.2 0 ((p.1.length:Int) - 1)=true:=by
     unfold inP;simp only [Bool.and_eq_true,decide_eq_true_eq];omega
    rw [this]; simp
   rw [this]; simp
  have ht:Yhz p=(-1,0):=by
   unfold Yhz;rw [h1,if_neg (by simp),hc,if_neg (by simp),hsel]; rfl
  have hb:(List.range p.2.2.2.2.2.length).findSome? (blkErr p)=none:=by
   rw [List.findSome?_eq_none_iff];intro k hk;have hk:=List.mem_range.1 hk;obtain ⟨q1,q2⟩:=h4 (p.2.2.2.2.2.getD k []) (by rw [Y7d hk]; exact List.getElem_mem hk);unfold blkErr;rw [if_neg (by omega),List.findSome?_eq_none_iff];intro j hj;have hj:=List.mem_range.1 hj;rw [if_pos (q2 _ (by rw [Y7d hj]; exact List.getElem_mem hj))]
  unfold rightP wrongP;rw [ht,if_pos rfl,hb]; rfl
end Go.Proofs.YthdlpkdojipfhaaGreat.VX.VxM_M
namespace Go.Proofs.YthdlpkdojipfhaaGreat.VX.VxM_M
open Go.Proofs
theorem Yf5 (p:Pg):Z42 p=some (!Ygu p):=by
 unfold Z42 Ygu inP;simp only [Bool.cond_eq_ite,decide_eq_true_eq]
 repeat' split
 all_goals (apply congrArg some; rw [Bool.eq_iff_iff]; simp; omega)
theorem Y6e {α β:Type} (z:α) (c:α→Bool) (y:β):∀ (l:List α),((List.range l.length).findSome? fun k=>if c (l.getD k z) then some y else none)=if l.any c then some y else none:=by
 intro l;cases h:l.any c with
 | true =>
  obtain ⟨a,ha,hc⟩:=List.any_eq_true.1 h;obtain ⟨k,hk,e⟩:=Yan ha z;rw [if_pos rfl];cases hq:(List.range l.length).findSome? fun k=>if c (l.getD k z) then some y else none with
  | none =>
   have:=List.findSome?_eq_none_iff.1 hq k (List.mem_range.2 hk);rw [e,if_pos hc] at this; cases this
  | some u =>
   obtain ⟨l1,a,l2,h1,h2,h3⟩:=List.findSome?_eq_some_iff.1 hq;split at h2
   ·exact h2.symm
   ·cases h2
 | false =>
  rw [if_neg (by simp),List.findSome?_eq_none_iff];intro k hk;rw [if_neg];have:=List.any_eq_false.1 h (l.getD k z) (by rw [Y7d (List.mem_range.1 hk)]; exact List.getElem_mem _);exact this
theorem Yf6 (p:Pg) (hs:small p):Z44 p=some (Yhz p):=by
 obtain ⟨s1,s2,s3,s4,s5⟩:=hs
 have h5:=Y9u (f:=Za3) p.1.length (fun k=>(p.1,(p.1.length:Int),(k:Int),p)) (fun k=>(if !inP (p.1.getD k 0) (-1) 3 then some ((-1:Int),(3:Int)) else none).map .inl) (.inr p) (by
  intro k hk;unfold Za3;simp only;have hg:getAt (0:Int) p.1 k=p.1.getD k 0:=Y7a _ _ _;rw [bif_t (by simpa using hk),bif_t (Y82 hk),Yif,hg,wrapI (by omega) (by omega)];generalize p.1.getD k 0=n;unfold inP;simp only [show Int.negSucc 0=-1 from rfl];by_cases a:n < -1
  ·rw [bif_t (decide_eq_true a),decide_eq_false (by omega)]; rfl
  ·rw [bif_f (decide_eq_false a)];by_cases b:n > 3
   ·rw [bif_t (decide_eq_true b),decide_eq_false (p:=n ≤ 3) (by omega),Bool.and_false]; rfl
   ·rw [bif_f (decide_eq_false b),decide_eq_true (by omega),decide_eq_true (by omega)]; rfl) (by
  unfold Za3;simp only;rw [bif_f (by simp)])
 have h11:=Y9u (f:=Z9z) p.2.2.2.2.1.length (fun k=>(p.2.2.2.2.1,(p.2.2.2.2.1.length:Int),(k:Int),p)) (fun k=>(selErr p k).map .inl) (.inr ()) (by
  intro k hk;unfold Z9z;simp only;have hg:getAt (([]:List (Bool × Int)),false) p.2.2.2.2.1 k=p.2.2.2.2.1.getD k zSl:=Y7a _ _ _;have hm:(p.2.2.2.2.1.getD k zSl).1.length < 9223372036854775808:=s4 _ (by rw [Y7d hk]; exact List.getElem_mem hk);rw [bif_t (by simpa using hk),bif_t (Y82 hk),Yif,hg];unfold selErr;generalize (p.2.2.2.2.1.getD k zSl).1=cs at *;by_cases h1:4 < cs.length
  ·rw [bif_t (decide_eq_true (by omega)),if_pos h1]; rfl
  ·rw [bif_f (decide_eq_false (by omega)),if_neg h1]
   have hin:=Y9u (f:=Za1) cs.length (fun j=>((k:Int),p.2.2.2.2.1,(p.2.2.2.2.1.length:Int),(k:Int),cs,(cs.length:Int),(j:Int),p)) (fun j=>(if !inP (cs.getD j (false,0)).2 0 ((p.1.length:Int) - 1) then some ((k:Int),(3:Int)) else none).map .inl) (.inr (p.2.2.2.2.1,(p.2.2.2.2.1.length:Int),(k:Int),p)) (by
    intro j hj;unfold Za1;simp only;have hg:getAt (false,(0:Int)) cs j=cs.getD j (false,0):=Y7a _ _ _;rw [bif_t (by simpa using hj),bif_t (Y82 hj),Yif,hg,wrapI (by omega) (by omega)];generalize cs.getD j (false,0)=c;unfold inP;by_cases a:c.2 < 0
    ·rw [bif_t (decide_eq_true a),decide_eq_false (by omega)]; rfl
    ·rw [bif_f (decide_eq_false a)];by_cases b:c.2 ≥ (p.1.length:Int)
     ·rw [bif_t (decide_eq_true b),decide_eq_false (p:=c.2 ≤ (p.1.length:Int) - 1) (by omega),Bool.and_false]; rfl
     ·rw [bif_f (decide_eq_false b),decide_eq_true (by omega),decide_eq_true (by omega)]; rfl) (by
    unfold Za1;simp only;rw [bif_f (by simp)])
   rw [show loop Za1 ((k:Int),p.2.2.2.2.1,(p.2.2.2.2.1.length:Int),(k:Int),cs,(cs.length:Int),(0:Int),p)=_ from hin,Y63,Y6e (false,0) (fun c:Cs=>!inP c.2 0 ((p.1.length:Int) - 1))];cases cs.any (fun c=>!inP c.2 0 ((p.1.length:Int) - 1)) with
   | true=>rfl
   | false =>
    simp only [Bool.false_eq_true,if_false,Option.map_none,Option.getD_none,Option.bind_some];rw [wrapI (by omega) (by omega)]; rfl) (by
  unfold Z9z;simp only;rw [bif_f (by simp)])
 unfold Z44 Yhz;rw [Yf5];simp only [Option.bind_some];cases hz:Ygu p with
 | false=>rfl
 | true =>
  rw [bif_f (by rfl),if_neg (by simp),show loop Za3 (p.1,(p.1.length:Int),(0:Int),p)=_ from h5,Y63,Y6e 0 (fun n:Int=>!inP n (-1) 3)];cases p.1.any (fun n=>!inP n (-1) 3) with
  | true=>rfl
  | false =>
   simp only [Bool.false_eq_true,if_false,Option.map_none,Option.getD_none,Option.bind_some];rw [show loop Z9z (p.2.2.2.2.1,(p.2.2.2.2.1.length:Int),(0:Int),p)=_ from h11,Y63];cases (List.range p.2.2.2.2.1.length).findSome? (selErr p) <;> rfl
theorem Yet (p:Pg) (b:List In) (op:Int) (h0:0 ≤ op) (h1:op ≤ 13) (hb:b.length < 4611686018427387904):Z40 (p,op,b)=some (mostP p b op):=by
 have hop:op=0 ∨ op=1 ∨ op=2 ∨ op=3 ∨ op=4 ∨ op=5 ∨ op=6 ∨ op=7 ∨ op=8 ∨ op=9 ∨ op=10 ∨ op=11 ∨ op=12 ∨ op=13:=by omega
 have w:IntKind.wrap .i64 ((b.length:Int)+1)=(b.length:Int)+1:=wrapI (by omega) (by omega);unfold Z40;simp only [w];rcases hop with h | h | h | h | h | h | h | h | h | h | h | h | h | h <;> (rw [h]; rfl)
theorem Yes (p:Pg) (b:List In) (i:In) (hb:b.length < 4611686018427387904):Z3y (p,b,i)=some (instrP p b i):=by
 unfold Z3y instrP;simp only;by_cases h0:i.1 < 0
 ·rw [bif_t (decide_eq_true h0),if_pos (by unfold inP; rw [decide_eq_false (by omega)]; rfl)]
 ·rw [bif_f (decide_eq_false h0)];by_cases h1:i.1 > 13
  ·rw [bif_t (decide_eq_true h1),if_pos (by unfold inP; rw [decide_eq_false (p:=i.1 ≤ 13) (by omega),Bool.and_false])]
  ·have hin:¬ inP i.1 0 13=false:=by unfold inP; simp; omega
   rw [bif_f (decide_eq_false h1),if_neg hin];by_cases h2:i.2.1 < 0
   ·rw [bif_t (decide_eq_true h2),if_pos (.inl (by unfold inP; rw [decide_eq_false (by omega)]; rfl))]
   ·rw [bif_f (decide_eq_false h2),Yet p b i.1 (by omega) (by omega) hb];simp only [Option.bind_some];by_cases h3:i.2.1 ≥ mostP p b i.1
    ·rw [bif_t (decide_eq_true h3),if_pos (.inl (by unfold inP; rw [decide_eq_false (p:=i.2.1 ≤ mostP p b i.1 - 1) (by omega),Bool.and_false]))]
    ·have e1:¬ inP i.2.1 0 (mostP p b i.1 - 1)=false:=by unfold inP; simp; omega
     rw [bif_f (decide_eq_false h3)];by_cases h4:i.2.2 < 0
     ·rw [bif_t (decide_eq_true h4),if_pos (.inr (by unfold inP; rw [decide_eq_false (by omega)]; rfl))]
     ·rw [bif_f (decide_eq_false h4)];by_cases h7:i.1=7
      ·rw [bif_t (by simpa using h7),if_pos h7];by_cases h5:i.2.2 > (b.length:Int)
       ·rw [bif_t (decide_eq_true h5),if_pos (.inr (by unfold inP; rw [decide_eq_false (p:=i.2.2 ≤ (b.length:Int)) (by omega),Bool.and_false]))]
       ·rw [bif_f (decide_eq_false h5),bif_f (by simpa using h7),if_neg];intro e;rcases e with e | e
        ·exact e1 e
        ·unfold inP at e; simp at e; omega
      ·rw [bif_f (by simpa using h7),bif_t (by simpa using h7),if_neg h7];by_cases h5:i.2.2=0
       ·rw [bif_f (by simp [h5]),if_neg];intro e;rcases e with e | e
        ·exact e1 e
        ·rw [h5] at e; cases e
       ·rw [bif_t (by simpa using h5),if_pos (.inr (by unfold inP; rw [decide_eq_false (p:=i.2.2 ≤ 0) (by omega),Bool.and_false]))]
theorem Yfy (p:Pg) (hs:small p):Z3w p=some (wrongP p):=by
 unfold Z3w wrongP;rw [Yf6 p hs];simp only [Option.bind_some];by_cases ht:(Yhz p).2=0
 ·rw [bif_f (by simpa using ht),if_pos ht];obtain ⟨s1,s2,s3,s4,s5⟩:=hs
  have hout:=Y9u (f:=Z9x) p.2.2.2.2.2.length (fun b=>(p.2.2.2.2.2,(p.2.2.2.2.2.length:Int),(b:Int),p)) (fun b=>(blkErr p b).map .inl) (.inr ()) (by
   intro b hb;unfold Z9x;simp only;have hg:getAt ([]:List (Int × (Int × Int))) p.2.2.2.2.2 b=p.2.2.2.2.2.getD b []:=Y7a _ _ _;have hm:(p.2.2.2.2.2.getD b []).length < 9223372036854775808:=s5 _ (by rw [Y7d hb]; exact List.getElem_mem hb);rw [bif_t (by simpa using hb),bif_t (Y82 hb),Yif,hg];unfold blkErr;generalize p.2.2.2.2.2.getD b []=bl at *;by_cases h1:24 < bl.length
   ·rw [bif_t (decide_eq_true (by omega)),if_pos h1]; rfl
   ·rw [bif_f (decide_eq_false (by omega)),if_neg h1]
    have hin:=Y9u (f:=Z9v) bl.length (fun k=>((b:Int),bl,p.2.2.2.2.2,(p.2.2.2.2.2.length:Int),(b:Int),bl,(bl.length:Int),(k:Int),p)) (fun k=>(if instrP p bl (bl.getD k zIn)=0 then none else some ((b:Int),(k:Int),instrP p bl (bl.getD k zIn))).map .inl) (.inr (p.2.2.2.2.2,(p.2.2.2.2.2.length:Int),(b:Int),p)) (by
     intro k hk;unfold Z9v;simp only;have hg:getAt ((0:Int),((0:Int),(0:Int))) bl k=bl.getD k zIn:=Y7a _ _ _;rw [bif_t (by simpa using hk),bif_t (Y82 hk),Yif,hg,Yes p bl _ (by omega),wrapI (by omega) (by omega)];simp only [Option.bind_some];by_cases h2:instrP p bl (bl.getD k zIn)=0
     ·rw [bif_f (by simp only [h2]; rfl),if_pos h2]; rfl
     ·rw [bif_t (by simpa using h2),if_neg h2]; rfl) (by
     unfold Z9v;simp only;rw [bif_f (by simp)])
    rw [show loop Z9v ((b:Int),bl,p.2.2.2.2.2,(p.2.2.2.2.2.length:Int),(b:Int),bl,(bl.length:Int),(0:Int),p)=_ from hin,Y63];cases (List.range bl.length).findSome? (fun k=>if instrP p bl (bl.getD k zIn)=0 then none else some ((b:Int),(k:Int),instrP p bl (bl.getD k zIn))) with
    | none =>
     simp only [Option.map_none,Option.getD_none,Option.bind_some];rw [wrapI (by omega) (by omega)]; rfl
    | some y=>rfl) (by
   unfold Z9x;simp only;rw [bif_f (by simp)])
  rw [show loop Z9x (p.2.2.2.2.2,(p.2.2.2.2.2.length:Int),(0:Int),p)=_ from hout,Y63];cases (List.range p.2.2.2.2.2.length).findSome? (blkErr p) <;> rfl
 ·rw [bif_t (by simpa using ht),if_neg ht]; rfl
end Go.Proofs.YthdlpkdojipfhaaGreat.VX.VxM_M
namespace Go.Proofs.YthdlpkdojipfhaaGreat.VX.VxM_M
open Go.Proofs
structure AC where
 cap:Int
 closed:Bool
 sent:Int
 got:Int
 sends:List W
 recvs:List W
def AC.leave (a:AC) (g:Int):AC:={ a with sends:=a.sends.filter (notG g),recvs:=a.recvs.filter (notG g) }
def AC.send (a:AC) (w:W):AC × Ou :=
 if a.cap < 0 then (a,(0,0,nobody,0)) else if a.closed=true then (a,(3,0,nobody,0)) else
 match a.recvs.find? (notG w.1) with
 | some v=>({ a.leave v.1 with sent:=a.sent+1,got:=a.got+1 },(1,a.sent,v,a.sent))
 | none=>if a.sent - a.got=max a.cap 0 then ({ a with sends:=a.sends++[w] },(0,0,nobody,0)) else ({ a with sent:=a.sent+1 },(1,a.sent,nobody,0))
def AC.recv (a:AC) (w:W):AC × Ou :=
 match a.sends.find? (notG w.1) with
 | some v=>({ a.leave v.1 with sent:=a.sent+1,got:=a.got+1 },(1,a.got,v,a.sent))
 | none=>if a.cap < 0 then (a,(0,0,nobody,0)) else if a.sent - a.got > 0 then ({ a with got:=a.got+1 },(1,a.got,nobody,0)) else if a.closed=true then (a,(2,0,nobody,0)) else ({ a with recvs:=a.recvs++[w] },(0,0,nobody,0))
def AC.ready (a:AC) (send:Bool) (g:Int):Bool :=
 if a.cap < 0 then false else if a.closed=true then true else if send=true then decide (a.sent - a.got ≠ max a.cap 0) || (a.recvs.find? (notG g)).isSome else decide (a.sent - a.got > 0) || (a.sends.find? (notG g)).isSome
def AC.new (n:Int):AC:=⟨n,false,0,0,[],[]⟩
def AC.sides (a:AC):Prop:=if a.cap < 0 then a.closed=false∧a.sent=0∧a.sends=[]∧a.recvs=[] else
 if a.closed=true then a.sends=[]∧a.recvs=[] else (a.sends=[] ∨ a.sent - a.got=a.cap)∧(a.recvs=[] ∨ a.sent=a.got)
structure AC.Ok (a:AC):Prop where
 cap:-1 ≤ a.cap∧a.cap ≤ 3
 sw:wOK a.sends
 rw:wOK a.recvs
 nums:0 ≤ a.got∧a.got ≤ a.sent∧a.sent ≤ 1048576
 room:a.sent - a.got ≤ max a.cap 0
 sides:a.sides
structure RelC (c:Ch) (a:AC):Prop where
 cap:c.1=a.cap
 closed:c.2.1=a.closed
 sent:c.2.2.2.1=a.sent
 got:c.2.2.2.2.1=a.got
 sends:c.2.2.2.2.2.1=a.sends
 recvs:c.2.2.2.2.2.2=a.recvs
 rok:rOK c.2.2.1
 rcap:c.2.2.1.1=max a.cap 0
 items:rItems c.2.2.1=seqI a.got (a.sent - a.got).toNat
theorem RelC.cnt {c:Ch} {a:AC} (h:RelC c a) (hn:a.got ≤ a.sent):c.2.2.1.2.2.2=a.sent - a.got:=by
 have h1:=congrArg List.length h.items;rw [Y8s,Ygh] at h1;have:=h.rok.2.2.2.1;omega
theorem Y9b {α:Type} {l:List α}:l.length=0 ↔ l=[]:=List.length_eq_zero_iff
theorem RelC.ok {c:Ch} {a:AC} (h:RelC c a):chOK c ↔ a.Ok:=by
 constructor
 ·rintro ⟨h1,h2,h3,h4,h5,h6,h7,h8,h9,h10,⟨h11,h12⟩,h13⟩;rw [h.cap] at h2 h3;rw [h.sends] at h5;rw [h.recvs] at h6;rw [h.sent] at h7 h8 h10;rw [h.got] at h9 h10;have hc:=h.cnt h10;refine ⟨⟨h2,h3⟩,h5,h6,⟨h9,h10,h8⟩,?_,?_⟩
  ·have:=h.rok.2.2.2.2.1;rw [hc,h.rcap] at this; exact this
  ·unfold Ygs at h13;unfold AC.sides;rw [h.cap,h.closed,h.sent,h.sends,h.recvs,hc] at h13;simp only [Y9b] at h13;rw [show (a.sent=a.got)=(a.sent - a.got=0) from propext (by omega)];exact h13
 ·intro ho;have hn:=ho.nums;have hc:=h.cnt hn.2.1;have hi:=h.items;refine ⟨h.rok,by rw [h.cap]; exact ho.cap.1,by rw [h.cap]; exact ho.cap.2,by rw [h.rcap,h.cap],by rw [h.sends]; exact ho.sw,by rw [h.recvs]; exact ho.rw,by rw [h.sent]; omega,by rw [h.sent]; exact hn.2.2,by rw [h.got]; exact hn.1,by rw [h.got,h.sent]; exact hn.2.1,⟨?_,?_⟩,?_⟩
  ·rw [h.got,hi,Ygh]
  ·rw [hi,Ygh,h.sent,h.got]; omega
  ·have h13:=ho.sides;unfold Ygs;unfold AC.sides at h13;rw [h.cap,h.closed,h.sent,h.sends,h.recvs,hc];simp only [Y9b];rw [show (a.sent=a.got)=(a.sent - a.got=0) from propext (by omega)] at h13;exact h13
theorem Y67 {l:List W} {p:W→Bool}:(match l.findIdx? p with | some i=>some (l.getD i zeroW) | none=>none)=l.find? p:=by
 induction l with
 | nil=>rfl
 | cons x l ih =>
  rw [List.findIdx?_cons,List.find?_cons];cases hp:p x with
  | true=>rfl
  | false =>
   rw [← ih];cases l.findIdx? p with
   | none=>rfl
   | some i=>rfl
theorem Y6a {l:List W} {p:W→Bool} {v:W} (h:l.find? p=some v):∃ i,l.findIdx? p=some i∧l.getD i zeroW=v:=by
 rw [← Y67] at h;cases hi:l.findIdx? p with
 | none=>rw [hi] at h; cases h
 | some i=>rw [hi] at h; exact ⟨i,rfl,Option.some.inj h⟩
theorem Y69 {l:List W} {p:W→Bool} (h:l.find? p=none):l.findIdx? p=none:=by
 rw [← Y67] at h;cases hi:l.findIdx? p with
 | none=>rfl
 | some i=>rw [hi] at h; cases h
theorem RelC.leave {c:Ch} {a:AC} (h:RelC c a) (g:Int):RelC (leaveC c g) (a.leave g) :=
 ⟨h.cap,h.closed,h.sent,h.got,by show c.2.2.2.2.2.1.filter _=_; rw [h.sends]; rfl,by show c.2.2.2.2.2.2.filter _=_; rw [h.recvs]; rfl,h.rok,h.rcap,h.items⟩
theorem RelC.push {c:Ch} {a:AC} (h:RelC c a) (hn:a.got ≤ a.sent) (hf:a.sent - a.got ≠ max a.cap 0):RelC (pushC c) { a with sent:=a.sent+1 }:=by
 have hc:=h.cnt hn;have hne:c.2.2.1.2.2.2 ≠ c.2.2.1.1:=by rw [hc,h.rcap]; exact hf
 refine ⟨h.cap,h.closed,by show c.2.2.2.1+1=_; rw [h.sent],h.got,h.sends,h.recvs,Ydq h.rok hne _,h.rcap,?_⟩;show rItems (pushed c.2.2.1 c.2.2.2.1)=seqI a.got (a.sent+1 - a.got).toNat;rw [Ydp h.rok hne,h.items,h.sent];have:(a.sent+1 - a.got).toNat=(a.sent - a.got).toNat+1:=by omega
 rw [this,← Ygi];congr 2;omega
theorem RelC.pop {c:Ch} {a:AC} (h:RelC c a) (hf:a.sent - a.got > 0):RelC (popC c) { a with got:=a.got+1 }∧first c.2.2.1=a.got:=by
 have hc:=h.cnt (by omega);have hne:c.2.2.1.2.2.2 ≠ 0:=by rw [hc]; omega
 have hi:=Ydi h.rok hne;rw [h.items,show (a.sent - a.got).toNat=(a.sent - (a.got+1)).toNat+1 by omega,Ygf] at hi;have hi:=List.cons.inj hi;exact ⟨⟨h.cap,h.closed,h.sent,by show c.2.2.2.2.1+1=_; rw [h.got],h.sends,h.recvs,Ydj h.rok hne,h.rcap,hi.2.symm⟩,hi.1.symm⟩
theorem RelC.pass {c:Ch} {a:AC} (h:RelC c a) (hf:a.sent=a.got):RelC (passC c) { a with sent:=a.sent+1,got:=a.got+1 }:=by
 refine ⟨h.cap,h.closed,by show c.2.2.2.1+1=_; rw [h.sent],by show c.2.2.2.2.1+1=_; rw [h.got],h.sends,h.recvs,h.rok,h.rcap,?_⟩;show rItems c.2.2.1=seqI (a.got+1) (a.sent+1 - (a.got+1)).toNat;rw [h.items,show (a.sent - a.got).toNat=0 by omega,show (a.sent+1 - (a.got+1)).toNat=0 by omega]; rfl
def newW (l:List W) (w:W):Prop:=keyW w ∉ l.map keyW∧l.length < 64
theorem Ydn {l:List W} {w:W} (h:newW l w):pushW l w=(l++[w],0):=by
 unfold pushW;rw [if_neg h.1,if_neg (Nat.ne_of_lt h.2)]
theorem RelC.send {c:Ch} {a:AC} (h:RelC c a) (ho:a.Ok) (w:W) (hs:a.sent < 1048576) (hw:newW a.sends w):∃ c',sendC c w=(c',(a.send w).2,0)∧RelC c' (a.send w).1:=by
 have hn:=ho.nums;have hc:=h.cnt hn.2.1;have hsd:=ho.sides;unfold sendC AC.send;rw [h.cap,h.closed,h.recvs,h.sent,hc,h.rcap];by_cases c1:a.cap < 0
 ·rw [if_pos c1,if_pos c1]; exact ⟨c,rfl,h⟩
 rw [if_neg c1,if_neg c1];by_cases c2:a.closed=true
 ·rw [if_pos c2,if_pos c2]; exact ⟨c,rfl,h⟩
 rw [if_neg c2,if_neg c2];unfold AC.sides at hsd;rw [if_neg c1,if_neg c2] at hsd;cases hf:a.recvs.find? (notG w.1) with
 | some v =>
  obtain ⟨i,e1,e2⟩:=Y6a hf;rw [e1];simp only;rw [if_neg (by omega),e2];have hr:a.recvs ≠ []:=by intro q; rw [q] at hf; cases hf
  exact ⟨_,rfl,(h.leave v.1).pass (hsd.2.resolve_left hr)⟩
 | none =>
  rw [Y69 hf];simp only;by_cases c3:a.sent - a.got=max a.cap 0
  ·rw [if_pos c3,if_pos c3];unfold outS;rw [h.sends,Ydn hw,if_pos rfl];exact ⟨_,rfl,h.cap,h.closed,h.sent,h.got,rfl,h.recvs,h.rok,h.rcap,h.items⟩
  ·rw [if_neg c3,if_neg c3,if_neg (by omega)];exact ⟨_,rfl,h.push hn.2.1 c3⟩
theorem RelC.recv {c:Ch} {a:AC} (h:RelC c a) (ho:a.Ok) (w:W) (hs:a.sent < 1048576) (hw:newW a.recvs w):∃ c',recvC c w=(c',(a.recv w).2,0)∧RelC c' (a.recv w).1:=by
 have hn:=ho.nums;have hc:=h.cnt hn.2.1;have hsd:=ho.sides;have hrm:=ho.room;unfold recvC AC.recv;rw [h.cap,h.closed,h.sends,h.sent,hc];cases hf:a.sends.find? (notG w.1) with
 | some v =>
  obtain ⟨i,e1,e2⟩:=Y6a hf;rw [e1];simp only;rw [if_neg (by omega),e2];have hr:a.sends ≠ []:=by intro q; rw [q] at hf; cases hf
  unfold AC.sides at hsd;have c1:¬ a.cap < 0:=fun q=>by rw [if_pos q] at hsd; exact hr hsd.2.2.1
  rw [if_neg c1] at hsd;have c2:¬ a.closed=true:=fun q=>by rw [if_pos q] at hsd; exact hr hsd.1
  rw [if_neg c2] at hsd;have hfull:=hsd.1.resolve_left hr;by_cases c3:a.sent - a.got > 0
  ·rw [if_pos c3];obtain ⟨p1,p2⟩:=(h.leave v.1).pop c3;have p3:=p1.push (by show a.got+1 ≤ a.sent; omega) (by show a.sent - (a.got+1) ≠ max a.cap 0; omega);refine ⟨_,?_,p3⟩;rw [show first c.2.2.1=a.got from p2]
  ·rw [if_neg c3];refine ⟨_,?_,(h.leave v.1).pass (show a.sent=a.got by omega)⟩;rw [show a.sent=a.got by omega]
 | none =>
  rw [Y69 hf];simp only;by_cases c1:a.cap < 0
  ·rw [if_pos c1,if_pos c1]; exact ⟨c,rfl,h⟩
  rw [if_neg c1,if_neg c1];by_cases c3:a.sent - a.got > 0
  ·rw [if_pos c3,if_pos c3];obtain ⟨p1,p2⟩:=h.pop c3;exact ⟨_,by rw [p2],p1⟩
  rw [if_neg c3,if_neg c3];by_cases c2:a.closed=true
  ·rw [if_pos c2,if_pos c2]; exact ⟨c,rfl,h⟩
  rw [if_neg c2,if_neg c2];unfold outR;rw [h.recvs,Ydn hw,if_pos rfl];exact ⟨_,rfl,h.cap,h.closed,h.sent,h.got,h.sends,rfl,h.rok,h.rcap,h.items⟩
theorem RelC.ready {c:Ch} {a:AC} (h:RelC c a) (ho:a.Ok) (s:Bool) (g:Int):readyC c s g=a.ready s g:=by
 have hc:=h.cnt ho.nums.2.1
 have hf:∀ l:List W,(l.findIdx? (notG g)).isSome=(l.find? (notG g)).isSome:=by
  intro l;rw [← Y67];cases l.findIdx? (notG g) <;> rfl
 unfold readyC AC.ready;rw [h.cap,h.closed,h.recvs,h.sends,hc,h.rcap,hf,hf]
theorem RelC.new {n:Int} (h1:-1 ≤ n) (h2:n ≤ 3):RelC (newC n) (AC.new n) where
 cap:=rfl
 closed:=rfl
 sent:=rfl
 got:=rfl
 sends:=rfl
 recvs:=rfl
 rok:=Ybl n h2
 rcap:=rfl
 items:=rfl
theorem RelC.same {c d:Ch} {a:AC} (h:RelC c a) (k:RelC d a):SameC c d where
 cap:=h.cap.trans k.cap.symm
 closed:=h.closed.trans k.closed.symm
 sent:=h.sent.trans k.sent.symm
 got:=h.got.trans k.got.symm
 sends:=h.sends.trans k.sends.symm
 recvs:=h.recvs.trans k.recvs.symm
 oka:=h.rok
 okb:=k.rok
 bcap:=h.rcap.trans k.rcap.symm
 items:=h.items.trans k.items.symm
theorem Yis {l:List W} {w:W} (h:wOK l) (hw:isW w) (hn:newW l w):wOK (l++[w]):=by
 refine ⟨fun x hx=>?_,by rw [List.length_append]; have:=hn.2; simp; omega,?_⟩
 ·rcases List.mem_append.1 hx with hx | hx
  ·exact h.1 x hx
  ·rw [List.mem_singleton.1 hx]; exact hw
 ·rw [List.map_append,List.nodup_append];refine ⟨h.2.2,by simp,?_⟩;intro a ha b hb;simp at hb;subst hb;intro e; exact hn.1 (e ▸ ha)
theorem AC.Ok.leave {a:AC} (h:a.Ok) (g:Int):(a.leave g).Ok:=by
 refine ⟨h.cap,Yit h.sw _,Yit h.rw _,h.nums,h.room,?_⟩;have hs:=h.sides;unfold AC.sides at hs ⊢;have f:∀ l:List W,l=[]→l.filter (notG g)=[]:=fun l e=>by rw [e]; rfl
 show if a.cap < 0 then a.closed=false∧a.sent=0∧a.sends.filter (notG g)=[]∧a.recvs.filter (notG g)=[] else
  if a.closed=true then a.sends.filter (notG g)=[]∧a.recvs.filter (notG g)=[] else (a.sends.filter (notG g)=[] ∨ a.sent - a.got=a.cap)∧(a.recvs.filter (notG g)=[] ∨ a.sent=a.got)
 split at hs
 ·rename_i c; rw [if_pos c]; exact ⟨hs.1,hs.2.1,f _ hs.2.2.1,f _ hs.2.2.2⟩
 ·rename_i c;rw [if_neg c];split at hs
  ·rename_i c2; rw [if_pos c2]; exact ⟨f _ hs.1,f _ hs.2⟩
  ·rename_i c2; rw [if_neg c2]; exact ⟨hs.1.imp (f _) id,hs.2.imp (f _) id⟩
theorem AC.Ok.send {a:AC} (h:a.Ok) {w:W} (hw:isW w) (hn:newW a.sends w) (hs:a.sent < 1048576) (hx:a.recvs.find? (notG w.1)=none→a.sent - a.got ≠ max a.cap 0→a.recvs=[]):(a.send w).1.Ok:=by
 have hnum:=h.nums;have hrm:=h.room;have hsd:=h.sides;unfold AC.send;by_cases c1:a.cap < 0
 ·rw [if_pos c1]; exact h
 rw [if_neg c1];by_cases c2:a.closed=true
 ·rw [if_pos c2]; exact h
 rw [if_neg c2];unfold AC.sides at hsd;rw [if_neg c1,if_neg c2] at hsd;cases hf:a.recvs.find? (notG w.1) with
 | some v =>
  have hl:=h.leave v.1;have hsl:=hl.sides;unfold AC.sides at hsl;have hsl:if a.cap < 0 then _ else if a.closed=true then _ else _:=hsl
  rw [if_neg c1,if_neg c2] at hsl;refine ⟨h.cap,hl.sw,hl.rw,by show 0 ≤ a.got+1∧a.got+1 ≤ a.sent+1∧a.sent+1 ≤ 1048576; omega,by show a.sent+1 - (a.got+1) ≤ max a.cap 0; omega,?_⟩;unfold AC.sides;show if a.cap < 0 then _ else if a.closed=true then _ else ((a.leave v.1).sends=[] ∨ a.sent+1 - (a.got+1)=a.cap)∧((a.leave v.1).recvs=[] ∨ a.sent+1=a.got+1)
  rw [if_neg c1,if_neg c2];exact ⟨hsl.1.imp id (fun e=>by have:a.sent - a.got=a.cap:=e; omega),hsl.2.imp id (fun e=>by have:a.sent=a.got:=e; omega)⟩
 | none =>
  simp only;by_cases c3:a.sent - a.got=max a.cap 0
  ·rw [if_pos c3];refine ⟨h.cap,Yis h.sw hw hn,h.rw,h.nums,h.room,?_⟩;unfold AC.sides;show if a.cap < 0 then _ else if a.closed=true then _ else (a.sends++[w]=[] ∨ a.sent - a.got=a.cap)∧(a.recvs=[] ∨ a.sent=a.got)
   rw [if_neg c1,if_neg c2];exact ⟨.inr (by omega),hsd.2⟩
  ·rw [if_neg c3];refine ⟨h.cap,h.sw,h.rw,by show 0 ≤ a.got∧a.got ≤ a.sent+1∧a.sent+1 ≤ 1048576; omega,by show a.sent+1 - a.got ≤ max a.cap 0; omega,?_⟩;unfold AC.sides;show if a.cap < 0 then _ else if a.closed=true then _ else (a.sends=[] ∨ a.sent+1 - a.got=a.cap)∧(a.recvs=[] ∨ a.sent+1=a.got)
   rw [if_neg c1,if_neg c2];exact ⟨.inl (hsd.1.resolve_right (by omega)),.inl (hx hf c3)⟩
theorem AC.Ok.recv {a:AC} (h:a.Ok) {w:W} (hw:isW w) (hn:newW a.recvs w) (hs:a.sent < 1048576) (hx:a.sends.find? (notG w.1)=none→a.sent - a.got > 0→a.sends=[]):(a.recv w).1.Ok:=by
 have hnum:=h.nums;have hrm:=h.room;have hsd:=h.sides;unfold AC.sides at hsd;unfold AC.recv;cases hf:a.sends.find? (notG w.1) with
 | some v =>
  have hr:a.sends ≠ []:=by intro q; rw [q] at hf; cases hf
  have c1:¬ a.cap < 0:=fun q=>by rw [if_pos q] at hsd; exact hr hsd.2.2.1
  rw [if_neg c1] at hsd;have c2:¬ a.closed=true:=fun q=>by rw [if_pos q] at hsd; exact hr hsd.1
  have hl:=h.leave v.1;have hsl:=hl.sides;unfold AC.sides at hsl;have hsl:if a.cap < 0 then _ else if a.closed=true then _ else _:=hsl
  rw [if_neg c1,if_neg c2] at hsl;refine ⟨h.cap,hl.sw,hl.rw,by show 0 ≤ a.got+1∧a.got+1 ≤ a.sent+1∧a.sent+1 ≤ 1048576; omega,by show a.sent+1 - (a.got+1) ≤ max a.cap 0; omega,?_⟩;unfold AC.sides;show if a.cap < 0 then _ else if a.closed=true then _ else ((a.leave v.1).sends=[] ∨ a.sent+1 - (a.got+1)=a.cap)∧((a.leave v.1).recvs=[] ∨ a.sent+1=a.got+1)
  rw [if_neg c1,if_neg c2];exact ⟨hsl.1.imp id (fun e=>by have:a.sent - a.got=a.cap:=e; omega),hsl.2.imp id (fun e=>by have:a.sent=a.got:=e; omega)⟩
 | none =>
  simp only;by_cases c1:a.cap < 0
  ·rw [if_pos c1]; exact h
  rw [if_neg c1] at hsd ⊢;by_cases c3:a.sent - a.got > 0
  ·rw [if_pos c3];have hse:=hx hf c3;refine ⟨h.cap,h.sw,h.rw,by show 0 ≤ a.got+1∧a.got+1 ≤ a.sent∧a.sent ≤ 1048576; omega,by show a.sent - (a.got+1) ≤ max a.cap 0; omega,?_⟩;unfold AC.sides;show if a.cap < 0 then _ else if a.closed=true then a.sends=[]∧a.recvs=[] else (a.sends=[] ∨ a.sent - (a.got+1)=a.cap)∧(a.recvs=[] ∨ a.sent=a.got+1)
   rw [if_neg c1];split at hsd
   ·rename_i c2; rw [if_pos c2]; exact hsd
   ·rename_i c2; rw [if_neg c2];exact ⟨.inl hse,.inl (hsd.2.resolve_right (by omega))⟩
  rw [if_neg c3];by_cases c2:a.closed=true
  ·rw [if_pos c2]; exact h
  rw [if_neg c2] at hsd ⊢;refine ⟨h.cap,h.sw,Yis h.rw hw hn,h.nums,h.room,?_⟩;unfold AC.sides;show if a.cap < 0 then _ else if a.closed=true then _ else (a.sends=[] ∨ a.sent - a.got=a.cap)∧(a.recvs++[w]=[] ∨ a.sent=a.got)
  rw [if_neg c1,if_neg c2];exact ⟨hsd.1,.inr (by omega)⟩
theorem AC.Ok.new {n:Int} (h1:-1 ≤ n) (h2:n ≤ 3):(AC.new n).Ok:=by
 refine ⟨⟨h1,h2⟩,⟨by simp [AC.new],by simp [AC.new],by simp [AC.new]⟩,⟨by simp [AC.new],by simp [AC.new],by simp [AC.new]⟩,by simp [AC.new],by simp [AC.new]; omega,?_⟩;unfold AC.sides;split
 ·exact ⟨rfl,rfl,rfl,rfl⟩
 ·rw [if_neg (by simp [AC.new])]; exact ⟨.inl rfl,.inl rfl⟩
def AC.close (a:AC):AC:={ a with closed:=true,recvs:=[] }
theorem AC.Ok.close {a:AC} (h:a.Ok) (h1:¬ a.cap < 0) (h2:a.sends=[]):a.close.Ok:=by
 refine ⟨h.cap,h.sw,⟨by simp [AC.close],by simp [AC.close],by simp [AC.close]⟩,h.nums,h.room,?_⟩;unfold AC.sides;show if a.cap < 0 then _ else if true=true then a.sends=[]∧([]:List W)=[] else _
 rw [if_neg h1,if_pos rfl]; exact ⟨h2,rfl⟩
theorem RelC.close {c:Ch} {a:AC} (h:RelC c a):(closeC c=(c,[],true)∧(a.cap < 0 ∨ a.closed=true ∨ a.sends ≠ [])) ∨ (¬ (a.cap < 0 ∨ a.closed=true ∨ a.sends ≠ [])∧∃ c',closeC c=(c',a.recvs,false)∧RelC c' a.close):=by
 unfold closeC;rw [h.cap,h.closed,h.sends,h.recvs];by_cases q:a.cap < 0 ∨ a.closed=true ∨ a.sends ≠ []
 ·left;rw [if_pos (by rcases q with q | q | q; exact .inl q; exact .inr (.inl q); exact .inr (.inr (fun e=>q (Y9b.1 e))))];exact ⟨rfl,q⟩
 ·right;refine ⟨q,_,by rw [if_neg (fun e=>q (by rcases e with e | e | e; exact .inl e; exact .inr (.inl e); exact .inr (.inr (fun e2=>e (Y9b.2 e2)))))],?_⟩;exact ⟨rfl,rfl,h.sent,h.got,rfl,rfl,h.rok,h.rcap,h.items⟩
end Go.Proofs.YthdlpkdojipfhaaGreat.VX.VxM_M
namespace Go.Proofs.YthdlpkdojipfhaaGreat.VX.VxM_M
open Go.Proofs
abbrev Gor:=Int × (Int × (Int × Bool))
abbrev Ev:=Int × (Int × (Int × (Int × Int)))
def zGor:Gor:=(0,0,0,false)
def gAt (gs:List Gor) (g:Int):Gor:=gs.getD g.toNat zGor
def blk (p:Pg) (b:Int):List In:=p.2.2.2.2.2.getD b.toNat []
def inAt (p:Pg) (x:Gor):In:=(blk p x.1).getD x.2.1.toNat zIn
def gOK (p:Pg) (x:Gor):Prop:=0 ≤ x.1∧x.1 < p.2.2.2.2.2.length∧0 ≤ x.2.1∧x.2.1 ≤ (blk p x.1).length∧0 ≤ x.2.2.1∧x.2.2.1 ≤ 2∧(x.2.1=(blk p x.1).length ↔ x.2.2.1=2)
def gTo (p:Pg) (x:Gor) (pc:Int):Gor:=(x.1,pc,if pc=(blk p x.1).length then 2 else 0,x.2.2.2)
def gWait (x:Gor):Gor:=(x.1,x.2.1,1,x.2.2.2)
def gCl (x:Gor) (b:Bool):Gor:=(x.1,x.2.1,x.2.2.1,b)
theorem gAt_eq (gs:List Gor) (g:Int):getAt ((0:Int),((0:Int),((0:Int),false))) gs (toN g)=gAt gs g:=by rw [Y7a]; rfl
theorem blk_eq (p:Pg) (b:Int):getAt ([]:List In) p.2.2.2.2.2 (toN b)=blk p b:=by rw [Y7a]; rfl
theorem Y79 {gs:List Gor} {g:Int} (h:0 ≤ g∧g < gs.length) (x:Gor):gAt (gs.set (toN g) x) g=x:=by
 unfold gAt toN;have:g.toNat < gs.length:=by omega
 simp [List.getD,this]
theorem gAt_ne {gs:List Gor} {g g':Int} (h:0 ≤ g) (h':0 ≤ g') (hne:g ≠ g') (x:Gor):gAt (gs.set (toN g) x) g'=gAt gs g':=by
 unfold gAt toN;have:g.toNat ≠ g'.toNat:=by omega
 simp [List.getD,List.getElem?_set,this]
theorem Y78 {gs:List Gor} {g:Int} (h:0 ≤ g∧g < gs.length):gAt gs g ∈ gs:=by
 unfold gAt;have:g.toNat < gs.length:=by omega
 simp [List.getD,this]
theorem set_set' {α:Type} (l:List α) (n:Nat) (a b:α):(l.set n a).set n b=l.set n b:=by simp
section
variable (p:Pg) (ev st:Int) (gs:List Gor) (cs:List Ch) (ls:List Lk) (os:List On) (L:List Ev)
theorem tell_x (g k o n s:Int) (hL:L.length ≤ 1000000) (he:0 ≤ ev∧ev ≤ 4000000) :
  Z35 (g,k,o,n,s,p,(ev,st),gs,cs,ls,os,L)=some (ev,p,(ev+1,st),gs,cs,ls,os,L++[(g,k,o,n,s)]):=by
 unfold Z35;simp only;rw [wrapI (n:=ev+1) (by omega) (by omega),wrapI (by omega) (by omega),bif_t (Y6i.2 (by simp; omega)),show ev+1 - 1=ev by omega]
theorem Y8h (g:Int) (hg:0 ≤ g∧g < gs.length) (hb:gOK p (gAt gs g)) (hr:(gAt gs g).2.2.1 ≠ 2) :
  Z26 (g,p,(ev,st),gs,cs,ls,os,L)=some (inAt p (gAt gs g),p,(ev,st),gs,cs,ls,os,L):=by
 obtain ⟨h1,h2,h3,h4,h5,h6,h7⟩:=hb;unfold Z26;simp only [gAt_eq,blk_eq];have h8:(gAt gs g).2.1 ≠ (blk p (gAt gs g).1).length:=fun e=>hr (h7.1 e)
 rw [bif_t (inbL.2 hg),bif_t (inbL.2 ⟨h1,h2⟩),bif_t (inbL.2 ⟨h3,by omega⟩),Y7a]; rfl
theorem goTo_x (g pc:Int) (hg:0 ≤ g∧g < gs.length) (h1:0 ≤ (gAt gs g).1) (h2:(gAt gs g).1 < p.2.2.2.2.2.length) :
  Z24 (g,pc,p,(ev,st),gs,cs,ls,os,L)=some (p,(ev,st),gs.set (toN g) (gTo p (gAt gs g) pc),cs,ls,os,L):=by
 unfold Z24;simp only [gAt_eq,Y79 hg,set_set',blk_eq,List.length_set];rw [bif_t (inbL.2 hg)];rw [bif_t (inbL.2 ⟨h1,h2⟩)];unfold gTo;by_cases h:pc=(blk p (gAt gs g).1).length
 ·rw [bif_t (by simpa using h),if_pos h]
 ·rw [bif_f (by simpa using h),if_neg h]
theorem goOn_x (g:Int) (hg:0 ≤ g∧g < gs.length) (h1:0 ≤ (gAt gs g).1) (h2:(gAt gs g).1 < p.2.2.2.2.2.length) (h3:0 ≤ (gAt gs g).2.1∧(gAt gs g).2.1 ≤ 1000) :
  Z22 (g,p,(ev,st),gs,cs,ls,os,L)=some (p,(ev,st),gs.set (toN g) (gTo p (gAt gs g) ((gAt gs g).2.1+1)),cs,ls,os,L):=by
 unfold Z22;simp only [gAt_eq];rw [bif_t (inbL.2 hg),wrapI (by omega) (by omega),goTo_x p ev st gs cs ls os L g _ hg h1 h2];rfl
theorem wait_x (g:Int) (hg:0 ≤ g∧g < gs.length) :
  Z39 (g,p,(ev,st),gs,cs,ls,os,L)=some (p,(ev,st),gs.set (toN g) (gWait (gAt gs g)),cs,ls,os,L):=by
 unfold Z39;simp only [gAt_eq];rw [bif_t (inbL.2 hg)];rfl
end
def zA:AC:=AC.new (-1)
def RelCs (cs:List Ch) (ac:List AC):Prop:=cs.length=ac.length∧∀ k,k < ac.length→RelC (cs.getD k zeroC) (ac.getD k zA)
theorem RelCs.set {cs:List Ch} {ac:List AC} (h:RelCs cs ac) {k:Nat} {c:Ch} {a:AC} (hr:RelC c a):RelCs (cs.set k c) (ac.set k a):=by
 refine ⟨by simp [h.1],fun j hj=>?_⟩;have hj:j < ac.length:=by simpa using hj
 have hj':j < cs.length:=by rw [h.1]; exact hj
 by_cases e:k=j
 ·subst e;simp only [List.getD,List.getElem?_set,hj,hj',if_true,Option.getD_some]; exact hr
 ·simp only [List.getD,List.getElem?_set,e,if_false];exact h.2 j hj
theorem RelCs.map {cs:List Ch} {ac:List AC} (h:RelCs cs ac) {f:Ch→Ch} {f':AC→AC} (hf:∀ c a,RelC c a→RelC (f c) (f' a)):RelCs (cs.map f) (ac.map f'):=by
 refine ⟨by simp [h.1],fun j hj=>?_⟩;have hj:j < ac.length:=by simpa using hj
 have hj':j < cs.length:=by rw [h.1]; exact hj
 have:=h.2 j hj;simp only [List.getD,List.getElem?_map,List.getElem?_eq_getElem hj,List.getElem?_eq_getElem hj',Option.map_some,Option.getD_some] at this ⊢;exact hf _ _ this
theorem chz_eq (cs:List Ch) (k:Int):getAt ((0:Int),(false,(((0:Int),((0:Int),(([]:List Int),(0:Int)))),((0:Int),((0:Int),(([]:List W),([]:List W))))))) cs (toN k)=cs.getD k.toNat zeroC:=by rw [Y7a]; rfl
structure MS where
 p:Pg
 ev:Int
 st:Int
 gs:List Gor
 cs:List AC
 ls:List Lk
 os:List On
 L:List Ev
abbrev TS:=Pg × (Int × Int) × List Gor × List Ch × List Lk × List On × List Ev
abbrev MS.t (s:MS) (cs:List Ch):TS:=(s.p,(s.ev,s.st),s.gs,cs,s.ls,s.os,s.L)
abbrev MS.tell (s:MS) (e:Ev):MS:={ s with ev:=s.ev+1,L:=s.L++[e] }
def MS.g (s:MS) (g:Int):Gor:=gAt s.gs g
abbrev MS.gset (s:MS) (g:Int) (x:Gor):MS:={ s with gs:=s.gs.set (toN g) x }
def MS.to (s:MS) (g pc:Int):MS:=s.gset g (gTo s.p (s.g g) pc)
def MS.on (s:MS) (g:Int):MS:=s.to g ((s.g g).2.1+1)
def MS.wait (s:MS) (g:Int):MS:=s.gset g (gWait (s.g g))
def MS.instr (s:MS) (g:Int):In:=inAt s.p (s.g g)
def MS.leave (s:MS) (g:Int):MS:={ s with cs:=s.cs.map fun a=>a.leave g }
def selAt (p:Pg) (a:Int):Sl:=p.2.2.2.2.1.getD a.toNat zSl
def caseAt (p:Pg) (a k:Int):Cs:=(selAt p a).1.getD k.toNat (false,0)
def sendsI (p:Pg) (i:In) (k:Int):Bool:=decide (i.1=1) || (decide (i.1=4) && (caseAt p i.2.1 k).1)
def MS.sends (s:MS) (x:W):Bool:=sendsI s.p (s.instr x.1) x.2.1
def MS.done1 (s:MS) (x:W) (k no:Int) (closed:Bool):MS :=
 if s.sends x=true then s.tell (x.1,3,k,no,x.2.2)
 else if closed=true then (s.tell (x.1,6,k,0,x.2.2)).gset x.1 (gCl (s.g x.1) true)
 else (s.tell (x.1,5,k,no,x.2.2)).gset x.1 (gCl (s.g x.1) false)
def MS.done (s:MS) (x:W) (k no:Int) (closed:Bool):MS:=((s.done1 x k no closed).on x.1).leave x.1
theorem Y96 (p:Pg) (ev st:Int) (x:W) (gs:List Gor) (ls:List Lk) (os:List On) (L:List Ev) (cs:List Ch) (hc:∀ c ∈ cs,chOK c) (hx:0 ≤ x.1) (hl:cs.length ≤ 1000) :
  loop Z9m ((cs.length:Int),0,p,(ev,st),x,cs,gs,ls,os,L)=some (p,(ev,st),gs,cs.map (fun c=>leaveC c x.1),ls,os,L):=by
 have key:=Y9r (f:=Z9m) cs.length (fun k=>((cs.length:Int),(k:Int),p,(ev,st),x,(cs.take k).map (fun c=>leaveC c x.1)++cs.drop k,gs,ls,os,L))
  (p,(ev,st),gs,cs.map (fun c=>leaveC c x.1),ls,os,L) (by
   intro k hk;have hlen:((cs.take k).map (fun c=>leaveC c x.1)++cs.drop k).length=cs.length:=by simp; omega
   have hget:((cs.take k).map (fun c=>leaveC c x.1)++cs.drop k).getD k zeroC=cs[k]:=by
    simp only [List.getD];rw [List.getElem?_append_right (by simp; omega)];simp [Nat.min_eq_left (Nat.le_of_lt hk),hk]
   unfold Z9m;simp only [chz_eq];rw [bif_t (decide_eq_true (by omega)),hlen,bif_t (Y82 hk)];have hok:=hc _ (List.getElem_mem hk);rw [show ((k:Int)).toNat=k from rfl,hget,Y3o _ _ (by have:=len1 hok; omega) (by have:=len2 hok; omega),if_pos hok,if_neg (by omega),wrapI (by omega) (by omega)];simp only [Option.bind_some]
   have hset:((cs.take k).map (fun c=>leaveC c x.1)++cs.drop k).set k (leaveC cs[k] x.1)=(cs.take (k+1)).map (fun c=>leaveC c x.1)++cs.drop (k+1):=by
    rw [List.set_append_right _ _ (by simp; omega),List.drop_eq_getElem_cons hk,← List.take_append_getElem hk];have e:k - ((cs.take k).map (fun c=>leaveC c x.1)).length=0:=by simp; omega
    rw [e,List.set_cons_zero,List.map_append,List.append_assoc]; rfl
   rw [Yif,hset,bif_t (Y82 hk)]; rfl) (by
   unfold Z9m;simp only;rw [bif_f (decide_eq_false (by omega)),List.take_length,List.drop_length,List.append_nil]) 0 (Nat.zero_le _)
 exact key
end Go.Proofs.YthdlpkdojipfhaaGreat.VX.VxM_M
namespace Go.Proofs.YthdlpkdojipfhaaGreat.VX.VxM_M
open Go.Proofs
def InOK (p:Pg) (b:List In) (i:In):Prop:=(0 ≤ i.1∧i.1 ≤ 13)∧(0 ≤ i.2.1∧i.2.1 < mostP p b i.1)∧0 ≤ i.2.2∧i.2.2 ≤ (if i.1=7 then (b.length:Int) else 0)
theorem Y80 {n a b:Int}:inP n a b=true ↔ a ≤ n∧n ≤ b:=by unfold inP; simp
theorem Y8f {p:Pg} {b:List In} {i:In} (h:instrP p b i=0):InOK p b i:=by
 unfold instrP at h;by_cases h1:inP i.1 0 13=false
 ·rw [if_pos h1] at h; cases h
 rw [if_neg h1] at h;by_cases h2:inP i.2.1 0 (mostP p b i.1 - 1)=false ∨ inP i.2.2 0 (if i.1=7 then (b.length:Int) else 0)=false
 ·rw [if_pos h2] at h; cases h
 ·rw [not_or] at h2;have h1:inP i.1 0 13=true:=by simpa using h1
  have h3:inP i.2.1 0 (mostP p b i.1 - 1)=true:=by simpa using h2.1
  have h4:inP i.2.2 0 (if i.1=7 then (b.length:Int) else 0)=true:=by simpa using h2.2
  rw [Y80] at h1 h3 h4;exact ⟨h1,⟨h3.1,by omega⟩,h4⟩
theorem Y2j {p:Pg} {x:Gor} (hx:gOK p x):blk p x.1 ∈ p.2.2.2.2.2:=by
 unfold blk;have:x.1.toNat < p.2.2.2.2.2.length:=by have:=hx.1; have:=hx.2.1; omega
 simp [List.getD,this]
theorem Y7x {p:Pg} {x:Gor} (hx:gOK p x) (hr:x.2.2.1 ≠ 2):inAt p x ∈ blk p x.1:=by
 unfold inAt;have h7:x.2.1 ≠ (blk p x.1).length:=fun e=>hr (hx.2.2.2.2.2.2.1 e)
 have:x.2.1.toNat < (blk p x.1).length:=by have:=hx.2.2.1; have:=hx.2.2.2.1; omega
 simp [List.getD,this]
theorem Y7y {p:Pg} (hp:RightP p) {x:Gor} (hx:gOK p x) (hr:x.2.2.1 ≠ 2):InOK p (blk p x.1) (inAt p x) :=
 Y8f ((hp.blks _ (Y2j hx)).2 _ (Y7x hx hr))
theorem Y2i {p:Pg} (hp:RightP p) {x:Gor} (hx:gOK p x):(blk p x.1).length ≤ 24:=(hp.blks _ (Y2j hx)).1
def fitI (p:Pg) (i:In) (c:Int) (send:Bool) (k:Int):Prop :=
 (i.1=4∧0 ≤ c∧c < (selAt p i.2.1).1.length∧caseAt p i.2.1 c=(send,k)) ∨ (i.1=(if send=true then 1 else 2)∧c=0∧i.2.1=k)
def MS.who (s:MS) (cur:Int) (x:W):Prop:=0 ≤ x.1∧x.1 < s.gs.length∧((s.g x.1).2.2.1=1 ∨ (x.1=cur∧(s.g x.1).2.2.1=0))
def MS.fitW (s:MS) (cur:Int) (x:W) (k:Int) (send:Bool):Prop:=s.who cur x∧fitI s.p (s.instr x.1) x.2.1 send k
def MS.fitL (s:MS) (cur:Int) (x:W) (op k:Int):Prop:=s.who cur x∧x.2.1=0∧(s.instr x.1).1=op∧(s.instr x.1).2.1=k
def MS.ch (s:MS) (k:Int):AC:=s.cs.getD k.toNat zA
def MS.lk (s:MS) (k:Int):Lk:=s.ls.getD k.toNat (false,[])
def MS.oc (s:MS) (k:Int):On:=s.os.getD k.toNat zeroO
structure GI (s:MS) (cur:Int):Prop where
 rp:RightP s.p
 gl:1 ≤ s.gs.length∧s.gs.length ≤ 8
 gor:∀ x ∈ s.gs,gOK s.p x
 cl:s.cs.length=s.p.1.length
 ch:∀ a ∈ s.cs,a.Ok
 cc:∀ k:Nat,k < s.cs.length→(s.ch k).cap=s.p.1.getD k 0
 cw:∀ k:Nat,k < s.cs.length→(∀ x ∈ (s.ch k).sends,s.fitW cur x k true)∧∀ x ∈ (s.ch k).recvs,s.fitW cur x k false
 ll:(s.ls.length:Int)=s.p.2.1
 lok:∀ l ∈ s.ls,lOK l
 lw:∀ k:Nat,k < s.ls.length→∀ x ∈ (s.lk k).2,s.fitL cur x 5 k
 ol:(s.os.length:Int)=s.p.2.2.1
 ook:∀ o ∈ s.os,oOK o
 ow:∀ k:Nat,k < s.os.length→∀ x ∈ (s.oc k).2.2,s.fitL cur x 7 k
def MS.Bd (s:MS) (n:Nat):Prop:=s.L.length+n ≤ 900000∧0 ≤ s.ev∧s.ev+n ≤ 3000000
theorem MS.Bd.le {s:MS} {n m:Nat} (h:s.Bd n) (hm:m ≤ n):s.Bd m:=⟨by have:=h.1; omega,h.2.1,by have:=h.2.2; omega⟩
theorem MS.Bd.tell {s:MS} {n:Nat} (h:s.Bd (n+1)) (e:Ev):(s.tell e).Bd n:=⟨by have:=h.1; simp only [MS.tell,List.length_append,List.length_singleton]; omega,by have:=h.2.1; simp only [MS.tell]; omega,by have:=h.2.2; simp only [MS.tell]; omega⟩
theorem RelCs.ok {cs:List Ch} {ac:List AC} (h:RelCs cs ac) (ho:∀ a ∈ ac,a.Ok):∀ c ∈ cs,chOK c:=by
 intro c hc;obtain ⟨k,hk,e⟩:=List.mem_iff_getElem.1 hc;have hk':k < ac.length:=by rw [← h.1]; exact hk
 have:=h.2 k hk';simp only [List.getD,List.getElem?_eq_getElem hk,List.getElem?_eq_getElem hk',Option.getD_some] at this;rw [← e];exact this.ok.2 (ho _ (List.getElem_mem hk'))
theorem Y33 {p:Pg} (hp:RightP p):p.1.length ≤ 4:=by
 have:=hp.sizes;unfold Ygu at this;simp only [Bool.and_eq_true,decide_eq_true_eq] at this;exact this.1
structure DoneOK (s:MS) (x:W):Prop where
 g:0 ≤ x.1∧x.1 < s.gs.length
 ok:gOK s.p (s.g x.1)
 pc:(s.g x.1).2.1 ≤ 1000
 st:(s.g x.1).2.2.1 ≠ 2
 sel:(s.instr x.1).1=4→(0 ≤ (s.instr x.1).2.1∧(s.instr x.1).2.1 < s.p.2.2.2.2.1.length)∧0 ≤ x.2.1∧x.2.1 < (selAt s.p (s.instr x.1).2.1).1.length
 cl:s.cs.length ≤ 1000
 ch:∀ a ∈ s.cs,a.Ok
theorem GI.done_ok {s:MS} {cur:Int} (h:GI s cur) {x:W} {k:Int} {send:Bool} (hf:s.fitW cur x k send):DoneOK s x:=by
 obtain ⟨⟨h1,h2,h3⟩,h4⟩:=hf;have hg:=h.gor _ (Y78 ⟨h1,h2⟩);have hr:(s.g x.1).2.2.1 ≠ 2:=by rcases h3 with h3 | h3 <;> omega
 have hi:=Y7y h.rp hg hr;refine ⟨⟨h1,h2⟩,hg,?_,hr,?_,?_,h.ch⟩
 ·have:=Y2i h.rp hg;have:=hg.2.2.2.1;show (gAt s.gs x.1).2.1 ≤ 1000;omega
 ·intro e;have h5:=hi.2.1;have e':(inAt s.p (gAt s.gs x.1)).1=4:=e;rw [e'] at h5;have h6:mostP s.p (blk s.p (gAt s.gs x.1).1) 4=s.p.2.2.2.2.1.length:=rfl;rw [h6] at h5;refine ⟨h5,?_⟩;rcases h4 with ⟨_,a,b,_⟩ | ⟨a,_⟩
  ·exact ⟨a,b⟩
  ·rw [e] at a; split at a <;> cases a
 ·rw [h.cl]; have:=Y33 h.rp; omega
theorem sel_eq (p:Pg) (a:Int):getAt (([]:List (Bool × Int)),false) p.2.2.2.2.1 (toN a)=selAt p a:=by rw [Y7a]; rfl
theorem Y36 (p:Pg) (a k:Int):getAt (false,(0:Int)) (selAt p a).1 (toN k)=caseAt p a k:=by rw [Y7a]; rfl
theorem done_x (s:MS) (cs:List Ch) (hr:RelCs cs s.cs) (x:W) (k no kind:Int) (h:DoneOK s x) (hb:s.Bd 1) :
  Z1y (x,k,no,kind,s.t cs)=some ((s.done x k no (decide (kind=2))).t (cs.map fun c=>leaveC c x.1)):=by
 obtain ⟨p,ev,st,gs,ac,ls,os,L⟩:=s;obtain ⟨hg,hok,hpc,hst,hsel,hcl,hch⟩:=h;obtain ⟨b1,b2,b3⟩:=hb;simp only [MS.g,MS.instr] at hg hok hpc hst hsel hcl hch b1 b2 b3;have hcs:∀ c ∈ cs,chOK c:=hr.ok hch;have hcl':cs.length ≤ 1000:=by rw [hr.1]; exact hcl
 have tel:=fun (k o n t:Int)=>tell_x p ev st gs cs ls os L x.1 k o n t (by omega) ⟨b2,by omega⟩
 -- behind the telling
 have on0:=goOn_x p (ev+1) st gs cs ls os
 have fin:∀ (gs':List Gor) (L':List Ev),gs'.length=gs.length→(gAt gs' x.1).1=(gAt gs x.1).1→(gAt gs' x.1).2.1=(gAt gs x.1).2.1 →
   ((Z22 (x.1,p,(ev+1,st),gs',cs,ls,os,L')).bind fun r =>
    (loop Z9m ((r.2.2.2.1.length:Int),0,r.1,r.2.1,x,r.2.2.2.1,r.2.2.1,r.2.2.2.2.1,r.2.2.2.2.2.1,r.2.2.2.2.2.2)).bind fun r=>some (r.1,r.2.1,r.2.2.1,r.2.2.2.1,r.2.2.2.2.1,r.2.2.2.2.2.1,r.2.2.2.2.2.2)) =
   some (p,(ev+1,st),gs'.set (toN x.1) (gTo p (gAt gs' x.1) ((gAt gs' x.1).2.1+1)),cs.map (fun c=>leaveC c x.1),ls,os,L'):=by
  intro gs' L' e1 e2 e3;rw [goOn_x p (ev+1) st gs' cs ls os L' x.1 (by rw [e1]; exact hg) (by rw [e2]; exact hok.1) (by rw [e2]; exact hok.2.1) (by rw [e3]; exact ⟨hok.2.2.1,hpc⟩)];simp only [Option.bind_some];rw [Y96 p (ev+1) st x _ ls os L' cs hcs hg.1 hcl'];rfl
 have cl:∀ b:Bool,(gAt (gs.set (toN x.1) (gCl (gAt gs x.1) b)) x.1)=gCl (gAt gs x.1) b:=fun b=>Y79 hg _
 unfold Z1y;simp only;rw [Y8h p ev st gs cs ls os L x.1 hg hok hst];simp only [Option.bind_some,sel_eq,Y36,gAt_eq];generalize hi:inAt p (gAt gs x.1)=i at *
 have recvCase:sendsI p i x.2.1=false→(bif kind == 2 then
    (Z35 (x.1,6,k,0,x.2.2,p,(ev,st),gs,cs,ls,os,L)).bind fun r19 =>
     bif inb x.1 r19.2.2.2.1.length then
      (Z22 (x.1,r19.2.1,r19.2.2.1,r19.2.2.2.1.set (toN x.1) ((gAt r19.2.2.2.1 x.1).1,(gAt r19.2.2.2.1 x.1).2.1,(gAt r19.2.2.2.1 x.1).2.2.1,true),r19.2.2.2.2.1,r19.2.2.2.2.2.1,r19.2.2.2.2.2.2.1,r19.2.2.2.2.2.2.2)).bind fun r20 =>
       (loop Z9m ((r20.2.2.2.1.length:Int),0,r20.1,r20.2.1,x,r20.2.2.2.1,r20.2.2.1,r20.2.2.2.2.1,r20.2.2.2.2.2.1,r20.2.2.2.2.2.2)).bind fun r=>some (r.1,r.2.1,r.2.2.1,r.2.2.2.1,r.2.2.2.2.1,r.2.2.2.2.2.1,r.2.2.2.2.2.2)
     else none
   else
    (Z35 (x.1,5,k,no,x.2.2,p,(ev,st),gs,cs,ls,os,L)).bind fun r19 =>
     bif inb x.1 r19.2.2.2.1.length then
      (Z22 (x.1,r19.2.1,r19.2.2.1,r19.2.2.2.1.set (toN x.1) ((gAt r19.2.2.2.1 x.1).1,(gAt r19.2.2.2.1 x.1).2.1,(gAt r19.2.2.2.1 x.1).2.2.1,false),r19.2.2.2.2.1,r19.2.2.2.2.2.1,r19.2.2.2.2.2.2.1,r19.2.2.2.2.2.2.2)).bind fun r20 =>
       (loop Z9m ((r20.2.2.2.1.length:Int),0,r20.1,r20.2.1,x,r20.2.2.2.1,r20.2.2.1,r20.2.2.2.2.1,r20.2.2.2.2.2.1,r20.2.2.2.2.2.2)).bind fun r=>some (r.1,r.2.1,r.2.2.1,r.2.2.2.1,r.2.2.2.2.1,r.2.2.2.2.2.1,r.2.2.2.2.2.2)
     else none)=some (((⟨p,ev,st,gs,ac,ls,os,L⟩:MS).done x k no (decide (kind=2))).t (cs.map fun c=>leaveC c x.1)):=by
  intro hsd
  have hs:¬ (⟨p,ev,st,gs,ac,ls,os,L⟩:MS).sends x=true:=by
   show ¬ sendsI p (inAt p (gAt gs x.1)) x.2.1=true;rw [hi,hsd]; simp
  by_cases c2:kind=2
  ·rw [bif_t (by simpa using c2),tel];simp only [Option.bind_some];rw [bif_t (inbL.2 hg)];have:=fin (gs.set (toN x.1) (gCl (gAt gs x.1) true)) (L++[(x.1,6,k,0,x.2.2)]) (by simp) (by rw [cl]; rfl) (by rw [cl]; rfl);refine Eq.trans this ?_;unfold MS.done MS.done1;rw [if_neg hs,if_pos (by simpa using c2)];rfl
  ·rw [bif_f (by simpa using c2),tel];simp only [Option.bind_some];rw [bif_t (inbL.2 hg)];have:=fin (gs.set (toN x.1) (gCl (gAt gs x.1) false)) (L++[(x.1,5,k,no,x.2.2)]) (by simp) (by rw [cl]; rfl) (by rw [cl]; rfl);refine Eq.trans this ?_;unfold MS.done MS.done1;rw [if_neg hs,if_neg (by simpa using c2)];rfl
 have sendCase:sendsI p i x.2.1=true→((Z35 (x.1,3,k,no,x.2.2,p,(ev,st),gs,cs,ls,os,L)).bind fun r19 =>
   (Z22 (x.1,r19.2.1,r19.2.2.1,r19.2.2.2.1,r19.2.2.2.2.1,r19.2.2.2.2.2.1,r19.2.2.2.2.2.2.1,r19.2.2.2.2.2.2.2)).bind fun r20 =>
    (loop Z9m ((r20.2.2.2.1.length:Int),0,r20.1,r20.2.1,x,r20.2.2.2.1,r20.2.2.1,r20.2.2.2.2.1,r20.2.2.2.2.2.1,r20.2.2.2.2.2.2)).bind fun r=>some (r.1,r.2.1,r.2.2.1,r.2.2.2.1,r.2.2.2.2.1,r.2.2.2.2.2.1,r.2.2.2.2.2.2))=some (((⟨p,ev,st,gs,ac,ls,os,L⟩:MS).done x k no (decide (kind=2))).t (cs.map fun c=>leaveC c x.1)):=by
  intro hsd
  have hs:(⟨p,ev,st,gs,ac,ls,os,L⟩:MS).sends x=true:=by
   show sendsI p (inAt p (gAt gs x.1)) x.2.1=true;rw [hi,hsd]
  rw [tel];simp only [Option.bind_some];refine Eq.trans (fin gs (L++[(x.1,3,k,no,x.2.2)]) rfl rfl rfl) ?_;unfold MS.done MS.done1;rw [if_pos hs];rfl
 by_cases c1:i.1=1
 ·rw [bif_t (by simpa using c1)];exact sendCase (by unfold sendsI; simp [c1])
 rw [bif_f (by simpa using c1)];by_cases c4:i.1=4
 ·obtain ⟨q1,q2,q3⟩:=hsel c4;rw [bif_t (by simpa using c4),bif_t (inbL.2 q1),bif_t (inbL.2 ⟨q2,q3⟩)];by_cases c5:(caseAt p i.2.1 x.2.1).1=true
  ·rw [bif_t c5];exact sendCase (by unfold sendsI; simp [c4,c5])
  ·have c5:(caseAt p i.2.1 x.2.1).1=false:=by simpa using c5
   rw [bif_f c5];exact recvCase (by unfold sendsI; simp [c1,c5])
 ·rw [bif_f (by simpa using c4)];exact recvCase (by unfold sendsI; simp [c1,c4])
end Go.Proofs.YthdlpkdojipfhaaGreat.VX.VxM_M
namespace Go.Proofs.YthdlpkdojipfhaaGreat.VX.VxM_M
open Go.Proofs
def AC.off (a:AC) (send:Bool) (x:W):AC × Ou:=if send=true then a.send x else a.recv x
def AC.mine (a:AC) (send:Bool):List W:=if send=true then a.sends else a.recvs
def AC.theirs (a:AC) (send:Bool):List W:=if send=true then a.recvs else a.sends
abbrev MS.csset (s:MS) (k:Int) (a:AC):MS:={ s with cs:=s.cs.set (toN k) a }
def MS.offer (s:MS) (x:W) (k:Int) (send:Bool):Ou × MS:=(((s.ch k).off send x).2,s.csset k ((s.ch k).off send x).1)
def MS.pass (s:MS) (x:W) (k:Int) (send:Bool):MS :=
 if (s.offer x k send).1.1=0 then (s.offer x k send).2.wait x.1
 else if (s.offer x k send).1.1=3 then { (s.offer x k send).2 with st:=3 }
 else (if (s.offer x k send).1.2.2.1.1=-1 then (s.offer x k send).2 else (s.offer x k send).2.done (s.offer x k send).1.2.2.1 k (s.offer x k send).1.2.2.2 false).done x k (s.offer x k send).1.2.1 (decide ((s.offer x k send).1.1=2))
structure OfferOK (s:MS) (x:W) (k:Int) (send:Bool):Prop where
 kr:0 ≤ k∧k < s.cs.length
 ok:(s.ch k).Ok
 w:isW x
 nw:newW ((s.ch k).mine send) x
 sent:(s.ch k).sent < 1048576
theorem Yc6 (s:MS) (cs:List Ch) (hr:RelCs cs s.cs) (x:W) (k:Int) (send:Bool) (h:OfferOK s x k send) :
  ∃ cs',RelCs cs' (s.offer x k send).2.cs∧Z2g (x,k,send,s.t cs)=some ((s.offer x k send).1,(s.offer x k send).2.t cs'):=by
 obtain ⟨p,ev,st,gs,ac,ls,os,L⟩:=s;obtain ⟨hk,hok,hw,hnw,hs⟩:=h;simp only [MS.ch] at hk hok hnw hs hr;have hk2:0 ≤ k∧k < cs.length:=by rw [hr.1]; exact hk
 have hkn:k.toNat < ac.length:=by omega
 have hrel:=hr.2 k.toNat hkn;have hch:=hrel.ok.2 hok;unfold Z2g;simp only [chz_eq];cases send with
 | true =>
  obtain ⟨c',e1,e2⟩:=hrel.send hok x hs hnw;rw [bif_t (by rfl),bif_t (inbL.2 hk2),Ygc _ _ (by have:=len1 hch; omega) (by have:=len2 hch; omega),if_pos ⟨hch,hw⟩,e1];simp only [Option.bind_some];rw [bif_t (inbL.2 hk2)];exact ⟨cs.set (toN k) c',hr.set e2,rfl⟩
 | false =>
  obtain ⟨c',e1,e2⟩:=hrel.recv hok x hs hnw;rw [bif_f (by rfl),bif_t (inbL.2 hk2),Ye8 _ _ (by have:=len1 hch; omega) (by have:=len2 hch; omega),if_pos ⟨hch,hw⟩,e1];simp only [Option.bind_some];rw [bif_t (inbL.2 hk2)];exact ⟨cs.set (toN k) c',hr.set e2,rfl⟩
theorem Y99 {cs:List Ch} {ac:List AC} (h:RelCs cs ac) (g:Int):RelCs (cs.map fun c=>leaveC c g) (ac.map fun a=>a.leave g):=h.map fun c a r=>r.leave g
theorem Y4y (s:MS) (x:W) (k no:Int) (b:Bool):(s.done x k no b).cs=s.cs.map fun a=>a.leave x.1:=by
 unfold MS.done MS.done1;split
 ·rfl
 ·split <;> rfl
theorem Y4x {s:MS} {n:Nat} (h:s.Bd (n+1)) (x:W) (k no:Int) (b:Bool):(s.done x k no b).Bd n:=by
 unfold MS.done MS.done1;split
 ·exact h.tell (x.1,3,k,no,x.2.2)
 ·split
  ·exact h.tell (x.1,6,k,0,x.2.2)
  ·exact h.tell (x.1,5,k,no,x.2.2)
theorem done_p (s:MS) (x:W) (k no:Int) (b:Bool):(s.done x k no b).p=s.p:=by
 unfold MS.done MS.done1;split
 ·rfl
 ·split <;> rfl
theorem pass_x (s:MS) (cs:List Ch) (hr:RelCs cs s.cs) (x:W) (k:Int) (send:Bool) (h:OfferOK s x k send) (hg:0 ≤ x.1∧x.1 < s.gs.length) (hb:s.Bd 2)
  (h1:(s.offer x k send).1.1 ≠ 0→(s.offer x k send).1.1 ≠ 3→(s.offer x k send).1.2.2.1.1 ≠ -1→DoneOK (s.offer x k send).2 (s.offer x k send).1.2.2.1)
  (h2:(s.offer x k send).1.1 ≠ 0→(s.offer x k send).1.1 ≠ 3→DoneOK (if (s.offer x k send).1.2.2.1.1=-1 then (s.offer x k send).2 else (s.offer x k send).2.done (s.offer x k send).1.2.2.1 k (s.offer x k send).1.2.2.2 false) x) :
  ∃ cs',RelCs cs' (s.pass x k send).cs∧Z2k (x,k,send,s.t cs)=some ((s.pass x k send).t cs'):=by
 obtain ⟨cs1,r1,e1⟩:=Yc6 s cs hr x k send h;have hb1:(s.offer x k send).2.Bd 2:=hb;have hg1:0 ≤ x.1∧x.1 < (s.offer x k send).2.gs.length:=hg;unfold Z2k MS.pass;simp only;rw [show (x,k,send,s.p,(s.ev,s.st),s.gs,cs,s.ls,s.os,s.L)=(x,k,send,s.t cs) from rfl,e1];generalize (s.offer x k send)=r at *;obtain ⟨o,s1⟩:=r;simp only [Option.bind_some,neg1] at *;by_cases c0:o.1=0
 ·rw [bif_t (by simpa using c0),if_pos c0,wait_x _ _ _ _ _ _ _ _ _ hg1];exact ⟨cs1,r1,rfl⟩
 rw [bif_f (by simpa using c0),if_neg c0];by_cases c3:o.1=3
 ·rw [bif_t (by simpa using c3),if_pos c3];exact ⟨cs1,r1,rfl⟩
 rw [bif_f (by simpa using c3),if_neg c3];have h1:=h1 c0 c3;have h2:=h2 c0 c3;by_cases cw:o.2.2.1.1=-1
 ·rw [bif_f (by simpa using cw),if_pos cw] ;rw [if_pos cw] at h2;rw [done_x s1 cs1 r1 x k _ _ h2 (hb1.le (by omega))];refine ⟨_,?_,rfl⟩;rw [Y4y]; exact Y99 r1 _
 ·rw [bif_t (by simpa using cw),if_neg cw,done_x s1 cs1 r1 _ k _ 1 (h1 cw) (hb1.le (by omega))];rw [if_neg cw] at h2;simp only [Option.bind_some];have r2:RelCs (cs1.map fun c=>leaveC c o.2.2.1.1) (s1.done o.2.2.1 k o.2.2.2 false).cs:=by rw [Y4y]; exact Y99 r1 _
  have hd:decide ((1:Int)=2)=false:=rfl;rw [hd,done_x (s1.done o.2.2.1 k o.2.2.2 false) _ r2 x k _ _ h2 (Y4x hb1 _ _ _ _)];refine ⟨_,?_,rfl⟩;rw [Y4y]; exact Y99 r2 _
theorem Ygb (a:AC) (w:W):(a.send w).1.cap=a.cap:=by
 unfold AC.send;split
 ·rfl
 ·split
  ·rfl
  ·split
   ·rfl
   ·split <;> rfl
theorem Ye7 (a:AC) (w:W):(a.recv w).1.cap=a.cap:=by
 unfold AC.recv;split
 ·rfl
 ·split
  ·rfl
  ·split
   ·rfl
   ·split <;> rfl
theorem Yc2 (a:AC) (b:Bool) (w:W):(a.off b w).1.cap=a.cap:=by
 unfold AC.off; split
 ·exact Ygb a w
 ·exact Ye7 a w
structure OffOut (a:AC) (b:Bool) (w:W) (r:AC × Ou):Prop where
 mine:∀ y ∈ r.1.mine b,y ∈ a.mine b ∨ (y=w∧r.2.1=0)
 theirs:∀ y ∈ r.1.theirs b,y ∈ a.theirs b
 kind:(r.2.1=0∧r.2.2.2.1=nobody) ∨ (r.2.1=1∧(r.2.2.2.1=nobody ∨ (r.2.2.2.1 ∈ a.theirs b∧r.2.2.2.1.1 ≠ w.1))) ∨ (r.2.1=2∧b=false∧r.2.2.2.1=nobody∧a.closed=true) ∨ (r.2.1=3∧b=true∧r.2.2.2.1=nobody)
 sent:a.sent ≤ r.1.sent∧r.1.sent ≤ a.sent+1
theorem Ygd (a:AC) (w:W):OffOut a true w (a.send w):=by
 unfold AC.send;split
 ·exact ⟨fun y h=>.inl h,fun y h=>h,.inl ⟨rfl,rfl⟩,by simp only; omega⟩
 split
 ·exact ⟨fun y h=>.inl h,fun y h=>h,.inr (.inr (.inr ⟨rfl,rfl,rfl⟩)),by simp only; omega⟩
 split
 ·rename_i v hv;have h1:=List.mem_of_find?_eq_some hv;have h2:=List.find?_some hv;exact ⟨fun y h=>.inl (List.mem_filter.1 h).1,fun y h=>(List.mem_filter.1 h).1,.inr (.inl ⟨rfl,.inr ⟨h1,by simpa [notG] using h2⟩⟩),by simp only; omega⟩
 ·split
  ·refine ⟨fun y h=>?_,fun y h=>h,.inl ⟨rfl,rfl⟩,by simp only; omega⟩;rcases List.mem_append.1 (show y ∈ a.sends++[w] from h) with h | h
   ·exact .inl h
   ·exact .inr ⟨List.mem_singleton.1 h,rfl⟩
  ·exact ⟨fun y h=>.inl h,fun y h=>h,.inr (.inl ⟨rfl,.inl rfl⟩),by simp only; omega⟩
theorem Ye9 (a:AC) (w:W):OffOut a false w (a.recv w):=by
 unfold AC.recv;split
 ·rename_i v hv;have h1:=List.mem_of_find?_eq_some hv;have h2:=List.find?_some hv;exact ⟨fun y h=>.inl (List.mem_filter.1 h).1,fun y h=>(List.mem_filter.1 h).1,.inr (.inl ⟨rfl,.inr ⟨h1,by simpa [notG] using h2⟩⟩),by simp only; omega⟩
 split
 ·exact ⟨fun y h=>.inl h,fun y h=>h,.inl ⟨rfl,rfl⟩,by simp only; omega⟩
 split
 ·exact ⟨fun y h=>.inl h,fun y h=>h,.inr (.inl ⟨rfl,.inl rfl⟩),by simp only; omega⟩
 split
 ·rename_i hc;exact ⟨fun y h=>.inl h,fun y h=>h,.inr (.inr (.inl ⟨rfl,rfl,rfl,hc⟩)),by simp only; omega⟩
 ·refine ⟨fun y h=>?_,fun y h=>h,.inl ⟨rfl,rfl⟩,by simp only; omega⟩;rcases List.mem_append.1 (show y ∈ a.recvs++[w] from h) with h | h
  ·exact .inl h
  ·exact .inr ⟨List.mem_singleton.1 h,rfl⟩
theorem Yc3 (a:AC) (b:Bool) (w:W):OffOut a b w (a.off b w):=by
 cases b with
 | true=>exact Ygd a w
 | false=>exact Ye9 a w
end Go.Proofs.YthdlpkdojipfhaaGreat.VX.VxM_M
namespace Go.Proofs.YthdlpkdojipfhaaGreat.VX.VxM_M
open Go.Proofs
theorem Y7e {α:Type} {l:List α} {k:Nat} (hk:k < l.length) (z a:α) (j:Nat):(l.set k a).getD j z=if j=k then a else l.getD j z:=by
 by_cases e:j=k
 ·subst e; rw [if_pos rfl]; simp [List.getD,hk]
 ·rw [if_neg e]; simp [List.getD,List.getElem?_set,Ne.symm e]
theorem Yao {α:Type} {l:List α} {k:Nat} (h:k < l.length) (z:α):l.getD k z ∈ l:=by simp [List.getD,h]
theorem Ybv {l:List W} (h:(l.map keyW).Nodup) (hb:∀ x ∈ l,0 ≤ x.1∧x.1 < 8∧0 ≤ x.2.1∧x.2.1 < 4):l.length ≤ 32:=by
 have h2:=Ybw (l.map keyW) ((List.range 8).flatMap fun (g:Nat)=>(List.range 4).map fun (c:Nat)=>((g:Int),(c:Int))) h (by
  intro y hy;obtain ⟨x,hx,rfl⟩:=List.mem_map.1 hy;obtain ⟨a,b,c,d⟩:=hb x hx;rw [List.mem_flatMap];refine ⟨x.1.toNat,by rw [List.mem_range]; omega,?_⟩;rw [List.mem_map];refine ⟨x.2.1.toNat,by rw [List.mem_range]; omega,?_⟩;unfold keyW;rw [show ((x.1.toNat:Nat):Int)=x.1 by omega,show ((x.2.1.toNat:Nat):Int)=x.2.1 by omega])
 rw [List.length_map] at h2;exact h2
theorem Yg9 {p:Pg} (hp:RightP p) (a:Int):(selAt p a).1.length ≤ 4:=by
 unfold selAt;by_cases h:a.toNat < p.2.2.2.2.1.length
 ·exact (hp.sels _ (Yao h zSl)).1
 ·simp [List.getD,h,zSl]
theorem Y35 {p:Pg} (hp:RightP p) {a k:Int} (ha:0 ≤ a∧a < p.2.2.2.2.1.length) (hk:0 ≤ k∧k < (selAt p a).1.length):0 ≤ (caseAt p a k).2∧(caseAt p a k).2 < p.1.length:=by
 have h1:a.toNat < p.2.2.2.2.1.length:=by omega
 have h2:=(hp.sels _ (Yao h1 zSl)).2;have h3:k.toNat < (selAt p a).1.length:=by omega
 exact h2 _ (Yao h3 (false,0))
section
variable {s:MS} {cur:Int}
theorem GI.gok (h:GI s cur) {g:Int} (hg:0 ≤ g∧g < s.gs.length):gOK s.p (s.g g):=h.gor _ (Y78 hg)
theorem GI.chok (h:GI s cur) {k:Int} (hk:0 ≤ k∧k < s.cs.length):(s.ch k).Ok:=h.ch _ (Yao (by omega) zA)
theorem GI.cw' (h:GI s cur) {k:Int} (hk:0 ≤ k∧k < s.cs.length) (b:Bool):∀ x ∈ (s.ch k).mine b,s.fitW cur x k b:=by
 obtain ⟨n,rfl⟩:∃ n:Nat,k=n:=⟨k.toNat,by omega⟩
 have:=h.cw n (by omega);cases b with
 | true=>exact this.1
 | false=>exact this.2
theorem Yi6 (a:AC) (b:Bool):a.theirs b=a.mine (!b):=by cases b <;> rfl
theorem Y6h (h:GI s cur) {x:W} {k:Int} {b:Bool} (hf:s.fitW cur x k b):0 ≤ x.1∧x.1 < 8∧0 ≤ x.2.1∧x.2.1 < 4:=by
 obtain ⟨⟨h1,h2,_⟩,h4⟩:=hf;have:=h.gl.2;refine ⟨h1,by omega,?_⟩;rcases h4 with ⟨_,a,b,_⟩ | ⟨_,a,_⟩
 ·have:=Yg9 h.rp (s.instr x.1).2.1;omega
 ·omega
theorem GI.mine_len (h:GI s cur) {k:Int} (hk:0 ≤ k∧k < s.cs.length) (b:Bool):((s.ch k).mine b).length ≤ 32:=by
 refine Ybv ?_ (fun x hx=>Y6h h (h.cw' hk b x hx));have:=h.chok hk;cases b with
 | true=>exact this.sw.2.2
 | false=>exact this.rw.2.2
theorem GI.weak (h:GI s (-1)) (cur:Int):GI s cur:=by
 have w:∀ x:W,s.who (-1) x→s.who cur x:=fun x ⟨a,b,c⟩=>⟨a,b,.inl (c.resolve_right (fun q=>by omega))⟩
 exact ⟨h.rp,h.gl,h.gor,h.cl,h.ch,h.cc,fun k hk=>⟨fun x hx=>⟨w x ((h.cw k hk).1 x hx).1,((h.cw k hk).1 x hx).2⟩,fun x hx=>⟨w x ((h.cw k hk).2 x hx).1,((h.cw k hk).2 x hx).2⟩⟩,h.ll,h.lok,fun k hk x hx=>⟨w x (h.lw k hk x hx).1,(h.lw k hk x hx).2⟩,h.ol,h.ook,fun k hk x hx=>⟨w x (h.ow k hk x hx).1,(h.ow k hk x hx).2⟩⟩
theorem GI.newW (h:GI s (-1)) {k:Int} (hk:0 ≤ k∧k < s.cs.length) (b:Bool) {x:W} (hx:(s.g x.1).2.2.1 ≠ 1):newW ((s.ch k).mine b) x:=by
 refine ⟨fun hm=>?_,by have:=h.mine_len hk b; omega⟩;obtain ⟨y,hy,e⟩:=List.mem_map.1 hm
 have e1:y.1=x.1:=by have:(keyW y).1=(keyW x).1:=by rw [e]
                     exact this
 obtain ⟨⟨h1,_,h3⟩,_⟩:=h.cw' hk b y hy;rw [e1] at h3;rcases h3 with h3 | h3
 ·exact hx h3
 ·rw [e1] at h1; omega
theorem GI.offer (h:GI s cur) {x:W} {k:Int} {b:Bool} (hk:0 ≤ k∧k < s.cs.length) (hf:s.fitW cur x k b) (hok:((s.ch k).off b x).1.Ok):GI (s.offer x k b).2 cur:=by
 have ho:=Yc3 (s.ch k) b x;have hkn:k.toNat < s.cs.length:=by omega
 have hch:∀ j:Nat,(s.offer x k b).2.ch j=if j=k.toNat then ((s.ch k).off b x).1 else s.ch j:=by
  intro j;show (s.cs.set (toN k) ((s.ch k).off b x).1).getD j zA=_;exact Y7e hkn zA _ j
 have hkk:((k.toNat:Nat):Int)=k:=by omega
 have mn:∀ (a:AC) (c:Bool),(∀ y ∈ a.sends,s.fitW cur y k true)→(∀ y ∈ a.recvs,s.fitW cur y k false)→∀ y ∈ a.mine c,s.fitW cur y k c:=by
  intro a c q1 q2;cases c with
  | true=>exact q1
  | false=>exact q2
 have both:∀ c:Bool,∀ y ∈ ((s.ch k).off b x).1.mine c,s.fitW cur y k c:=by
  intro c y hy;by_cases e:c=b
  ·subst e;rcases ho.mine y hy with q | ⟨q,_⟩
   ·exact h.cw' hk c y q
   ·rw [q]; exact hf
  ·have e:c=!b:=by cases c <;> cases b <;> simp_all
   subst e;rw [← Yi6] at hy;have:=ho.theirs y hy;rw [Yi6] at this;exact h.cw' hk _ y this
 refine ⟨h.rp,h.gl,h.gor,by show (s.cs.set _ _).length=_; rw [List.length_set]; exact h.cl,fun a ha=>?_,fun j hj=>?_,fun j hj=>?_,h.ll,h.lok,h.lw,h.ol,h.ook,h.ow⟩
 ·rcases List.mem_or_eq_of_mem_set ha with q | q
  ·exact h.ch a q
  ·rw [q]; exact hok
 ·have hj:j < s.cs.length:=by have:j < (s.cs.set (toN k) ((s.ch k).off b x).1).length:=hj; simpa using this
  rw [hch];split
  ·rename_i e;rw [Yc2,e,← hkk];exact h.cc k.toNat hkn
  ·exact h.cc j hj
 ·have hj:j < s.cs.length:=by have:j < (s.cs.set (toN k) ((s.ch k).off b x).1).length:=hj; simpa using this
  rw [hch];split
  ·rename_i e;rw [e,hkk];exact ⟨both true,both false⟩
  ·exact h.cw j hj
theorem GI.gset (h:GI s cur) {g:Int} (hg:0 ≤ g∧g < s.gs.length) {x:Gor} (hx:gOK s.p x) (cur':Int)
  (hc:∀ k:Nat,k < s.cs.length→∀ b,∀ y ∈ (s.ch k).mine b,y.1 ≠ g) (hl:∀ k:Nat,k < s.ls.length→∀ y ∈ (s.lk k).2,y.1 ≠ g) (ho:∀ k:Nat,k < s.os.length→∀ y ∈ (s.oc k).2.2,y.1 ≠ g)
  (hcur:cur'=cur ∨ cur=g):GI (s.gset g x) cur':=by
 have hgne:∀ y:W,0 ≤ y.1→y.1 ≠ g→(s.gset g x).g y.1=s.g y.1:=fun y h0 hne=>gAt_ne hg.1 h0 (Ne.symm hne) x
 have w:∀ y:W,y.1 ≠ g→s.who cur y→(s.gset g x).who cur' y:=by
  rintro y hne ⟨a,b,c⟩;refine ⟨a,by show y.1 < ((s.gs.set (toN g) x).length:Int); rw [List.length_set]; exact b,?_⟩;rw [hgne y a hne];rcases c with c | c
  ·exact .inl c
  ·rcases hcur with e | e
   ·rw [e]; exact .inr c
   ·exact absurd (c.1.trans e) hne
 have ins:∀ y:W,0 ≤ y.1→y.1 ≠ g→(s.gset g x).instr y.1=s.instr y.1:=fun y h0 hne=>by unfold MS.instr; rw [hgne y h0 hne]
 refine ⟨h.rp,by show 1 ≤ (s.gs.set (toN g) x).length∧(s.gs.set (toN g) x).length ≤ 8; rw [List.length_set]; exact h.gl,fun y hy=>?_,h.cl,h.ch,h.cc,fun k hk=>⟨fun y hy=>?_,fun y hy=>?_⟩,h.ll,h.lok,fun k hk y hy=>?_,h.ol,h.ook,fun k hk y hy=>?_⟩
 ·rcases List.mem_or_eq_of_mem_set hy with q | q
  ·exact h.gor y q
  ·rw [q]; exact hx
 ·have hne:=hc k hk true y hy;obtain ⟨q1,q2⟩:=(h.cw k hk).1 y hy;exact ⟨w y hne q1,by rw [ins y q1.1 hne]; exact q2⟩
 ·have hne:=hc k hk false y hy;obtain ⟨q1,q2⟩:=(h.cw k hk).2 y hy;exact ⟨w y hne q1,by rw [ins y q1.1 hne]; exact q2⟩
 ·have hne:=hl k hk y hy;obtain ⟨q1,q2⟩:=h.lw k hk y hy;exact ⟨w y hne q1,by rw [ins y q1.1 hne]; exact q2⟩
 ·have hne:=ho k hk y hy;obtain ⟨q1,q2⟩:=h.ow k hk y hy;exact ⟨w y hne q1,by rw [ins y q1.1 hne]; exact q2⟩
theorem GI.wait (h:GI s cur) (hg:0 ≤ cur∧cur < s.gs.length) (hs:(s.g cur).2.2.1=0):GI (s.wait cur) (-1):=by
 have hok:=h.gok hg;have hne2:(s.g cur).2.1 ≠ (blk s.p (s.g cur).1).length:=fun e=>by have:=hok.2.2.2.2.2.2.1 e; omega
 have hx:gOK s.p (gWait (s.g cur)):=⟨hok.1,hok.2.1,hok.2.2.1,hok.2.2.2.1,by show (0:Int) ≤ 1; omega,by show (1:Int) ≤ 2; omega,by
  show (s.g cur).2.1=(blk s.p (s.g cur).1).length ↔ (1:Int)=2;exact ⟨fun e=>absurd e hne2,fun e=>by omega⟩⟩
 have hgat:(s.wait cur).g cur=gWait (s.g cur):=Y79 hg _;have hgne:∀ y:W,0 ≤ y.1→y.1 ≠ cur→(s.wait cur).g y.1=s.g y.1:=fun y h0 hne=>gAt_ne hg.1 h0 (Ne.symm hne) _
 have w:∀ y:W,s.who cur y→(s.wait cur).who (-1) y:=by
  rintro y ⟨a,b,c⟩;refine ⟨a,by show y.1 < ((s.gs.set (toN cur) _).length:Int); rw [List.length_set]; exact b,.inl ?_⟩;by_cases e:y.1=cur
  ·rw [e,hgat]; rfl
  ·rw [hgne y a e];exact c.resolve_right (fun q=>e q.1)
 have ins:∀ y:W,0 ≤ y.1→(s.wait cur).instr y.1=s.instr y.1:=by
  intro y h0;unfold MS.instr;by_cases e:y.1=cur
  ·rw [e,hgat]; rfl
  ·rw [hgne y h0 e]; rfl
 refine ⟨h.rp,by show 1 ≤ (s.gs.set (toN cur) _).length∧(s.gs.set (toN cur) _).length ≤ 8; rw [List.length_set]; exact h.gl,fun y hy=>?_,h.cl,h.ch,h.cc,fun k hk=>⟨fun y hy=>?_,fun y hy=>?_⟩,h.ll,h.lok,fun k hk y hy=>?_,h.ol,h.ook,fun k hk y hy=>?_⟩
 ·rcases List.mem_or_eq_of_mem_set hy with q | q
  ·exact h.gor y q
  ·rw [q]; exact hx
 ·obtain ⟨q1,q2⟩:=(h.cw k hk).1 y hy;exact ⟨w y q1,by rw [ins y q1.1]; exact q2⟩
 ·obtain ⟨q1,q2⟩:=(h.cw k hk).2 y hy;exact ⟨w y q1,by rw [ins y q1.1]; exact q2⟩
 ·obtain ⟨q1,q2⟩:=h.lw k hk y hy;exact ⟨w y q1,by rw [ins y q1.1]; exact q2⟩
 ·obtain ⟨q1,q2⟩:=h.ow k hk y hy;exact ⟨w y q1,by rw [ins y q1.1]; exact q2⟩
theorem gTo_ok {p:Pg} {x:Gor} (hx:gOK p x) {pc:Int} (h:0 ≤ pc∧pc ≤ (blk p x.1).length):gOK p (gTo p x pc):=by
 refine ⟨hx.1,hx.2.1,h.1,h.2,?_,?_,?_⟩
 ·show 0 ≤ if pc=(blk p x.1).length then (2:Int) else 0
  split <;> omega
 ·show (if pc=(blk p x.1).length then (2:Int) else 0) ≤ 2;split <;> omega
 ·show pc=(blk p x.1).length ↔ (if pc=(blk p x.1).length then (2:Int) else 0)=2;split
  ·rename_i e; exact ⟨fun _=>rfl,fun _=>e⟩
  ·rename_i e; exact ⟨fun q=>absurd q e,fun q=>by omega⟩
theorem gCl_ok {p:Pg} {x:Gor} (hx:gOK p x) (b:Bool):gOK p (gCl x b):=hx
theorem GI.tell (h:GI s cur) (e:Ev):GI (s.tell e) cur:=⟨h.rp,h.gl,h.gor,h.cl,h.ch,h.cc,h.cw,h.ll,h.lok,h.lw,h.ol,h.ook,h.ow⟩
theorem GI.st (h:GI s cur) (n:Int):GI { s with st:=n } cur:=⟨h.rp,h.gl,h.gor,h.cl,h.ch,h.cc,h.cw,h.ll,h.lok,h.lw,h.ol,h.ook,h.ow⟩
theorem Y97 (a:AC) (g:Int) (b:Bool):(a.leave g).mine b=(a.mine b).filter (notG g):=by cases b <;> rfl
theorem GI.leave (h:GI s cur) (g:Int):GI (s.leave g) cur:=by
 have hlen:(s.leave g).cs.length=s.cs.length:=by show (s.cs.map _).length=_; rw [List.length_map]
 have hch:∀ j:Nat,j < s.cs.length→(s.leave g).ch j=(s.ch j).leave g:=by
  intro j hj;show (s.cs.map fun a=>a.leave g).getD j zA=(s.cs.getD j zA).leave g;simp [List.getD,hj]
 refine ⟨h.rp,h.gl,h.gor,hlen.trans h.cl,fun a ha=>?_,fun k hk=>?_,fun k hk=>⟨fun y hy=>?_,fun y hy=>?_⟩,h.ll,h.lok,h.lw,h.ol,h.ook,h.ow⟩
 ·obtain ⟨a',ha',e⟩:=List.mem_map.1 ha;rw [← e]; exact (h.ch a' ha').leave g
 ·rw [hlen] at hk; rw [hch k hk]; exact h.cc k hk
 ·rw [hlen] at hk; rw [hch k hk] at hy; exact (h.cw k hk).1 y (List.mem_filter.1 hy).1
 ·rw [hlen] at hk; rw [hch k hk] at hy; exact (h.cw k hk).2 y (List.mem_filter.1 hy).1
end
end Go.Proofs.YthdlpkdojipfhaaGreat.VX.VxM_M

