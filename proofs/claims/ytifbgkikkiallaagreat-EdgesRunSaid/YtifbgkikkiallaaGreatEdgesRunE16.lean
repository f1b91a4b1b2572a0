import Derived.Test.YtifbgkikkiallaaGreatEdgesRunE15
import Derived.Sort.OwnSortedInts
set_option linter.unusedVariables false
set_option linter.unusedSimpArgs false
namespace Go.Proofs.YtifbgkikkiallaaGreat.VX
open Go.Sort Go.Proofs
def sortI (l:List Int):List Int:=l.mergeSort fun x y=>decide (x <= y)
theorem Yit (l:List Int):(sortI l).length=l.length:=by unfold sortI; simp
def isNl:AV->Bool
 | .nl=>true
 | _=>false
theorem Y9h {v:AV} (h:isNl v=true):v=.nl:=by cases v <;> first | rfl | cases h
def Yix (xs:List Int) (lo n:Nat):List Int:=over xs (sortI (cut xs lo n)) lo n
def Yiz:Spec where
 run args m N k kp:=match args with
  | [v]=>bif isNl v then k (.tu .nil) m N else match dstFor m (.int .i64) v with
   | some (τ,lo,n,xs)=>req (fits n) (k (.tu .nil) ((τ,.row (.int .i64) (Yix xs lo n)) :: m) N)
   | none=>none
  | _=>none
theorem Yj0:Yiz.Uni:=by
 intro args m N R k kp r h;left;simp only[Yiz] at h ⊢;split at h
 ·rename_i v;cases hn:isNl v with
  | true=>exact ⟨.tu .nil,[],N,fun k' kp'=>rfl⟩
  | false =>
   rw[hn,cond_false] at h;split at h
   ·rename_i τ lo n xs hd;obtain ⟨h1,_⟩:=Yft h;exact ⟨.tu .nil,[(τ,.row (.int .i64) (Yix xs lo n))],N,fun k' kp'=>by simp only[hd,cond_false,h1,req]; rfl⟩
   ·cases h
 ·cases h
theorem Yff {w:World} {ok:Nat->Prop}:∀ (xs:List Int) (cells:List Value),RdL (Rd w ok (.int .i64)) xs cells->cells=xs.map (Value.int .i64)
 | [],cells,h=>h
 | x :: xs,cells,⟨c1,c2,e,h1,h2⟩=>by
  have h1:c1=[Value.int .i64 x]:=h1;rw[e,h1,Yff xs c2 h2]; rfl
theorem rdl_int' {w:World} {ok:Nat->Prop}:∀ (xs:List Int),RdL (Rd w ok (.int .i64)) xs (xs.map (Value.int .i64))
 | []=>rfl
 | x :: xs=>⟨[Value.int .i64 x],xs.map (Value.int .i64),rfl,rfl,rdl_int' xs⟩
theorem Yf0 (off:Nat) (d:Array Int) (cc:Array Value) (k:Nat):(putCells (Value.int .i64) off d cc)[k]?=if off <= k/\k < off+d.size then (cc[k]?).map (fun _=>Value.int .i64 d[k - off]!) else cc[k]?:=by
 unfold putCells;rw[Array.getElem?_mapIdx];by_cases h:off <= k/\k < off+d.size
 ·rw[if_pos h];cases cc[k]? with
  | none=>rfl
  | some v=>simp[h]
 ·rw[if_neg h];cases cc[k]? with
  | none=>rfl
  | some v=>simp[h]
section
variable {P:Program} {f:FuncId}
theorem Yj1 {R:Type} {m:Mem} {g:G} {k kp:AV->Mem->Nat->Option R} {r:R} {X:Nat->Prop} {w:World} {cv:Value} {τ lo n:Nat} (xs:List Int)
  (hS:∀ (blk off cap:Nat) (zs:List Int) (w:World),Go.Sort.Holds (Value.int .i64) w blk off zs.toArray->blk < w.heap.size->zs.length < 4611686018427387904 ->
   Calls P f #[.slice (some ⟨blk,off,none⟩) zs.length cap] w fun e w'=>e=.returned (.tuple #[])/\∃ n os,w'=grow (putRow (Value.int .i64) (Go.Sort.ahead w n) blk off (zs.mergeSort fun x y=>decide (x <= y)).toArray) os)
  (hN:∀ (p:Option Addr) (cap:Nat) (w:World),Calls P f #[.slice p 0 cap] w fun e w'=>e=.returned (.tuple #[])/\w'=w)
  (hI:Inv g X m w) (hm:mget τ m=.row (.int .i64) xs) (hrow:RowAt g w (okB X g m) τ (.int .i64) xs lo n cv)
  (hfits:fits n=true) (hrun:k (.tu .nil) ((τ,.row (.int .i64) (Yix xs lo n)) :: m) g.n=some r):Calls P f #[cv] w (Y3 X g m w k kp r):=by
 have tuOK:∀ (g':G) (m':Mem) (w':World),RV g' w' (okB X g' m') (.tu .nil) (.tuple #[]):=fun g' m' w'=>⟨fun h=>(by cases h),fun _=>⟨[],rfl,rfl⟩⟩
 obtain ⟨ad,hcv,hval⟩:=hrow.val;have hfit:lo+n <= xs.length:=hrow.fit;have hlen:xs.length=(g.loc τ).len:=hrow.len;have hcap:=hrow.cap;unfold Yix at hrun;by_cases hn0:n=0
 ·subst hcv;subst hn0
  have hov:over xs (sortI (cut xs lo 0)) lo 0=xs:=by
   unfold over;rw[List.take_zero,List.append_nil,Nat.add_zero,List.take_append_drop]
  rw[hov] at hrun
  have hmg:∀ σ,mget σ ((τ,.row (.int .i64) xs) :: m)=mget σ m:=by
   intro σ;rw[Ybs];split
   ·rename_i e; subst e; exact hm.symm
   ·rfl
  have lv:∀ σ,Lv g ((τ,.row (.int .i64) xs) :: m) σ ↔ Lv g m σ:=fun σ=>by unfold Lv; rw[hmg]
  have hxx:Ext g m w g ((τ,.row (.int .i64) xs) :: m) w:=⟨GExt.refl g,fun _ h=>.inl h,Nat.le_refl _,fun _ _ _=>rfl,fun b hb=>.inl (hb.imp (fun ⟨σ,q1,q2⟩=>⟨σ,(lv σ).1 q1,q2⟩) (MoLe.cons (fun _=>rfl) rfl).own),rfl,rfl,rfl⟩
  have hI':Inv g X ((τ,.row (.int .i64) xs) :: m) w:=by
   refine hI.step hxx (fun σ=>?_) (fun σ σ' k1 k2 k3=>hI.inj σ σ' ((lv σ).1 k1) ((lv σ').1 k2) k3) (fun σ k1=>hI.far σ ((lv σ).1 k1)) (fun σ k1=>by rw[hmg]; exact hI.fresh σ k1) hI.dlt (MoLe.cons (fun _=>rfl) rfl) (fun σ k=>.inl ⟨σ,(lv σ).1 k,rfl⟩);by_cases hdm:g.dom σ
   ·exact .inl ⟨hdm,hmg σ,fun _=>rfl,fun _ _=>rfl⟩
   ·right; rw[hmg,hI.fresh σ hdm]; trivial
  refine (hN ad _ w).mono ?_;rintro e w' ⟨rfl,rfl⟩;exact .inl ⟨.tu .nil,_,g,_,rfl,hrun,hI',tuOK _ _ _,hxx⟩
 ·rcases hval with ⟨p1,_,p3,hnil⟩ | ⟨p1,off,cc,ee,cells,had,p2,p3,p4,p5,p6,p7⟩
  ·have hnil:xs=[]:=hnil;rw[hnil] at hfit;simp at hfit; omega
  ·subst had;have hcells:=Yff xs cells p5;have hsz1:(Ty.int IntKind.i64).size=1:=rfl;simp only[hsz1,Nat.mul_one] at p2 p3 p7;have hoff:=p2 (by omega);have hzl:(cut xs lo n).length=n:=by unfold cut; simp; omega
   have hblt:(g.loc τ).blk < w.heap.size:=Yb1 p4
   have hcut:∀ j,j < n->(cut xs lo n)[j]?=xs[lo+j]?:=by
    intro j hj;unfold cut;rw[List.getElem?_take_of_lt hj,List.getElem?_drop]
   have hcell:∀ j (h:j < xs.length),cc[(g.loc τ).base+j]?=some (Value.int .i64 xs[j]):=fun j h=>p6 _ _ (by rw[hcells]; simp[h])
   have hHold:Go.Sort.Holds (Value.int .i64) w (g.loc τ).blk off (cut xs lo n).toArray:=by
    intro j hj
    have hj':j < n:=by
     have:j < (cut xs lo n).length:=hj;omega
    have hlt:lo+j < xs.length:=by omega
    have hz:(cut xs lo n).toArray[j]! = xs[lo+j]:=by
     have:=hcut j hj';rw[List.getElem?_eq_getElem hlt] at this;rw[getElem!_def,List.getElem?_toArray,this]
    refine ⟨?_,by simp[World.frozen?,p4]⟩;have:=hcell _ hlt;simp only[World.cell?,p4];rw[hz,hoff];simpa[Nat.add_assoc] using this
   have hlt62:(cut xs lo n).length < 4611686018427387904:=by
    rw[hzl];have h:=hfits;unfold fits at h;have h2:n <= 4294967296:=by simpa using h
    omega
   have hcall:=hS (g.loc τ).blk off ((g.loc τ).cap - lo) (cut xs lo n) w hHold hblt hlt62;rw[hzl] at hcall;subst hcv;refine hcall.mono ?_;rintro e w' ⟨rfl,nn,os,hW⟩;obtain ⟨zs,hd2⟩:∃ zs,zs=sortI (cut xs lo n):=⟨_,rfl⟩
   have hW:w'=grow (putRow (Value.int .i64) (Go.Sort.ahead w nn) (g.loc τ).blk off zs.toArray) os:=by rw[hd2]; exact hW
   have hzs:zs.length=n:=by rw[hd2,Yit,hzl]
   rw[<- hd2] at hrun;have hlive:Lv g m τ:=⟨by rw[hm]; rfl,p1⟩
   have hsame:∀ b,b < w.heap.size->b ≠ (g.loc τ).blk->w'.heap[b]?=w.heap[b]?:=by
    intro b hb hne;rw[hW,heap_grow_old _ _ (by simpa using hb)];simp[putRow,mapBlock,Go.Sort.ahead,Array.getElem?_modify,Ne.symm hne]
   have hat:w'.heap[(g.loc τ).blk]?=some (.cells (putCells (Value.int .i64) off zs.toArray cc) ee (0,0)):=by
    rw[hW,heap_grow_old _ _ (by simpa using hblt)];simp[putRow,mapBlock,Go.Sort.ahead,Array.getElem?_modify,p4,onCells]
   have hgs:w.heap.size <= w'.heap.size:=by
    rw[hW];simp[grow,putRow,mapBlock,Go.Sort.ahead]
   have ho1:w'.os=w.os:=by rw[hW]; rfl
   have ho2:w'.tape=w.tape:=by rw[hW]; rfl
   have ho3:w'.output=w.output:=by rw[hW]; rfl
   have hxx:Ext g m w g ((τ,.row (.int .i64) (over xs zs lo n)) :: m) w' :=
    ⟨GExt.refl g,fun _ h=>.inl h,hgs,fun b hb hno=>hsame b hb (fun e=>hno (hlive.own e.symm)),fun b hb=>.inl (hb.imp (fun ⟨σ,k1,k2⟩=>⟨σ,Lv_upd hlive k1,k2⟩) (MoLe.cons (fun _=>rfl) rfl).own),ho1,ho2,ho3⟩
   have hovl:(over xs zs lo n).length=xs.length:=by
    unfold over;simp[hzs]; omega
   have hget:∀ j,j < xs.length->(over xs zs lo n)[j]?=if lo <= j/\j < lo+n then zs[j - lo]? else xs[j]?:=by
    intro j hjl;have htk:zs.take n=zs:=List.take_of_length_le (by omega);have hlt:(xs.take lo).length=lo:=by simp; omega
    unfold over;rw[htk];by_cases h1:j < lo
    ·rw[if_neg (by omega),la9,List.getElem?_append_left (by omega),List.getElem?_take_of_lt h1]
    ·by_cases h2:j < lo+n
     ·rw[if_pos (by omega),la9,List.getElem?_append_right (by omega),hlt,List.getElem?_append_left (by omega)]
     ·rw[if_neg (by omega),List.getElem?_append_right (by rw[ln9]; omega),ln9,hlt,List.getElem?_drop,show lo+n+(j - (lo+zs.length))=j by omega]
   have hB:BOK g w' (okB X g ((τ,.row (.int .i64) (over xs zs lo n)) :: m)) τ (.row (.int .i64) (over xs zs lo n)):=by
    refine ⟨hovl.trans hlen,hcap,.inr ⟨p1,_,ee,(over xs zs lo n).map (Value.int .i64),hat,rdl_int' _,fun j v hv=>?_,?_⟩⟩
    ·have hjl:j < xs.length:=by
      have:=(List.getElem?_eq_some_iff.1 hv).1;rw[List.length_map,hovl] at this; exact this
     rw[Yf0,hcell j hjl];rw[List.getElem?_map,hget j hjl] at hv;by_cases h2:lo <= j/\j < lo+n
     ·rw[if_pos (by simp[hzs]; omega)];rw[if_pos h2] at hv;have hjz:j - lo < zs.length:=by omega
      rw[List.getElem?_eq_getElem hjz] at hv
      have:zs.toArray[(g.loc τ).base+j - off]! = zs[j - lo]:=by
       rw[show (g.loc τ).base+j - off=j - lo by omega,getElem!_def,List.getElem?_toArray,List.getElem?_eq_getElem hjz]
      rw[Option.map_some,this];exact hv
     ·rw[if_neg (by simp[hzs]; omega)];rw[if_neg h2,List.getElem?_eq_getElem hjl] at hv;exact hv
    ·show (g.loc τ).base+(g.loc τ).cap * 1 <= _;rw[show (putCells (Value.int .i64) off zs.toArray cc).size=cc.size by simp[putCells]];omega
   have hI':Inv g X ((τ,.row (.int .i64) (over xs zs lo n)) :: m) w':=by
    refine hI.step hxx (fun σ=>?_) (fun σ σ' k1 k2 k3=>hI.inj σ σ' (Lv_upd hlive k1) (Lv_upd hlive k2) k3) (fun σ k1=>hI.far σ (Lv_upd hlive k1)) (fun σ k1=>?_) hI.dlt (MoLe.cons (fun _=>rfl) rfl) (fun σ k=>.inl ⟨σ,Lv_upd hlive k,rfl⟩)
    ·by_cases e:τ=σ
     ·subst e; right; rw[Ybs,if_pos rfl]; exact hB
     ·by_cases hlt:g.dom σ
      ·left;exact ⟨hlt,by rw[Ybs,if_neg e],fun k=>hsame _ (hI.heap_lt k) (fun h=>e (hI.inj σ τ k hlive h).symm),fun i k=>hsame _ (hI.sb σ i k).1 (fun h=>(hI.sb σ i k).2.2.1 τ hlive h.symm)⟩
      ·right; rw[Ybs,if_neg e,hI.fresh σ hlt]; trivial
    ·have:=hI.live_lt hlive.1;rw[Ybs,if_neg (fun e:τ=σ=>k1 (e ▸ this))]; exact hI.fresh σ k1
   exact .inl ⟨.tu .nil,_,g,_,rfl,hrun,hI',tuOK _ _ _,hxx⟩
theorem Yj2 (hfn:∃ fn,P.funcs[f]?=some fn/\fn.body.isSome=true/\fn.name ≠ "runtime.NumGoroutine")
  (hS:∀ (blk off cap:Nat) (zs:List Int) (w:World),Go.Sort.Holds (Value.int .i64) w blk off zs.toArray->blk < w.heap.size->zs.length < 4611686018427387904 ->
   Calls P f #[.slice (some ⟨blk,off,none⟩) zs.length cap] w fun e w'=>e=.returned (.tuple #[])/\∃ n os,w'=grow (putRow (Value.int .i64) (Go.Sort.ahead w n) blk off (zs.mergeSort fun x y=>decide (x <= y)).toArray) os)
  (hN:∀ (p:Option Addr) (cap:Nat) (w:World),Calls P f #[.slice p 0 cap] w fun e w'=>e=.returned (.tuple #[])/\w'=w):Sound P f Yiz:=by
 refine ⟨Yj0,hfn,?_⟩;intro R args m g k kp r X w vs hrun hI hrt hargs;simp only[Yiz] at hrun;split at hrun
 ·rename_i v
  match vs,hargs with
  | [cv],⟨hv,_⟩ =>
   cases hn:isNl v with
   | true =>
    rw[hn,cond_true] at hrun;have e:=Y9h hn;subst e;have e:=(List.cons.inj (hv.2 rfl)).1;subst e;refine (hN none 0 w).mono ?_;rintro e w' ⟨rfl,rfl⟩;exact .inl ⟨.tu .nil,m,g,_,rfl,hrun,hI,⟨fun h=>(by cases h),fun _=>⟨[],rfl,rfl⟩⟩,Ext.refl _ _ _⟩
   | false =>
    rw[hn,cond_false] at hrun;split at hrun
    ·rename_i τ lo n xs hd;obtain ⟨hm,hrow⟩:=Y5n hI hd hv;obtain ⟨h1,h2⟩:=Yft hrun;exact Yj1 xs hS hN hI hm hrow h1 h2
    ·cases hrun
 ·cases hrun
end
end Go.Proofs.YtifbgkikkiallaaGreat.VX

