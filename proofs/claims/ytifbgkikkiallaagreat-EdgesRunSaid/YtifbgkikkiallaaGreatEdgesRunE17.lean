import Derived.Test.YtifbgkikkiallaaGreatEdgesRunE16
import Derived.Shelf.Slices.CompactI
set_option linter.unusedVariables false
set_option linter.unusedSimpArgs false
namespace Go.Proofs.YtifbgkikkiallaaGreat.VX
open Go.Sort Go.Proofs
def Y4h (l:List Int):List Int:=Go.Lib.compact l
def Y4k:Spec where
 run args m N k kp:=match args with
  | [v]=>bif isNl v then k .nl m N else match v with
   | .sl τ=>match rowAt m (.int .i64) τ with
    | some xs=>req (fits (List.length (xs:List Int))) (k (.sl N) ((N,.row (.int .i64) (Y4h xs)) :: (τ,.gone) :: m) (N+1))
    | none=>none
   | _=>none
  | _=>none
theorem Y4l:Y4k.Uni:=by
 intro args m N R k kp r h;left;simp only[Y4k] at h ⊢;split at h
 ·rename_i v;cases hn:isNl v with
  | true=>exact ⟨.nl,[],N,fun k' kp'=>rfl⟩
  | false =>
   rw[hn,cond_false] at h;split at h
   ·rename_i τ;split at h
    ·rename_i xs hd;obtain ⟨h1,_⟩:=Yft h;exact ⟨.sl N,[(N,.row (.int .i64) (Y4h xs)),(τ,.gone)],N+1,fun k' kp'=>by simp only[hd,cond_false,h1,req]; rfl⟩
    ·cases h
   ·cases h
 ·cases h
theorem Y4o (l:List Int):(Y4h l).length <= l.length:=by
 unfold Y4h Go.Lib.compact Go.Lib.compactUpTo;rw[List.length_map];have:=List.length_filter_le (Go.Lib.keeps l.toArray) (List.range l.length);simpa using this
section
variable {P:Program} {f:FuncId}
theorem Y4n {R:Type} {m:Mem} {g:G} {k kp:AV->Mem->Nat->Option R} {r:R} {X:Nat->Prop} {w:World} {cv:Value} {τ:Nat} (xs:List Int)
  (hS:∀ (blk off cap:Nat) (zs:List Int) (w:World),Go.Sort.Holds (Value.int .i64) w blk off zs.toArray->zs.length <= 9223372036854775807->zs.length <= cap ->
   Calls P f #[.slice (some ⟨blk,off,none⟩) zs.length cap] w fun e w'=>e=.returned (.slice (some ⟨blk,off,none⟩) (Go.Lib.compact zs).length cap)/\∃ q,w'=putRow (Value.int .i64) (Go.Sort.ahead w q) blk off (Go.Lib.compact zs++List.replicate (zs.length - (Go.Lib.compact zs).length) 0).toArray)
  (hN:∀ (p:Option Addr) (cap:Nat) (w:World),Calls P f #[.slice p 0 cap] w fun e w'=>e=.returned (.slice p 0 cap)/\w'=w)
  (hI:Inv g X m w) (hm:mget τ m=.row (.int .i64) xs) (hrow:RowAt g w (okB X g m) τ (.int .i64) xs 0 xs.length cv)
  (hfits:fits xs.length=true) (hrun:k (.sl g.n) ((g.n,.row (.int .i64) (Y4h xs)) :: (τ,.gone) :: m) (g.n+1)=some r):Calls P f #[cv] w (Y3 X g m w k kp r):=by
 obtain ⟨ad,hcv,hval⟩:=hrow.val;have hlen:xs.length=(g.loc τ).len:=hrow.len;have hcap:=hrow.cap;have hlv0:(mget τ m).live=true:=by rw[hm]; rfl
 have hτ:=hI.live_lt hlv0;subst hcv;rw[Nat.sub_zero] at hval ⊢;have hsz1:(Ty.int IntKind.i64).size=1:=rfl;rcases hval with ⟨p1,rfl,p3,hnil⟩ | ⟨p1,off,cc,ee,cells,rfl,p2,p3,p4,p5,p6,p7⟩
 ·have hnil:xs=[]:=hnil;subst hnil;have he:Y4h []=[]:=rfl;rw[he] at hrun;refine (hN none _ w).mono ?_;rintro e w' ⟨rfl,rfl⟩;have hI1:=hI.kill τ hτ;have hx:=Ext.fresh hI1 (.row (.int .i64) []) ⟨0,0,0,0,true⟩ rfl;refine .inl ⟨.sl g.n,_,g.new ⟨0,0,0,0,true⟩,_,rfl,hrun,hI1.new _ _ hx (fun _ _=>rfl) (.inl rfl) ?_,?_,(Ext.kill τ).trans hx⟩
  ·refine ⟨by rw[g.new_self]; rfl,by rw[g.new_self]; exact Nat.le_refl _,.inl ⟨by rw[g.new_self],by rw[g.new_self]⟩⟩
  ·refine RV_one rfl ⟨.inr rfl,?_⟩;rw[g.new_self];rw[p3]; rfl
 ·have hcells:=Yff xs cells p5;simp only[hsz1,Nat.mul_one] at p2 p3 p7;have hlive:Lv g m τ:=⟨hlv0,p1⟩
  by_cases hn0:xs.length=0
  ·have hnil:xs=[]:=List.eq_nil_of_length_eq_zero hn0;subst hnil;have he:Y4h []=[]:=rfl;rw[he] at hrun;refine (hN _ _ w).mono ?_;rintro e w' ⟨rfl,hw⟩;rw[hw];have hx:=Ext.move (w:=w) (w':=w) hI.ndom hlive (.row (.int .i64) ([]:List Int)) ⟨(g.loc τ).blk,off,0,(g.loc τ).cap,false⟩ rfl rfl (fun _ _=>rfl) rfl rfl rfl;refine .inl ⟨.sl g.n,_,g.new ⟨(g.loc τ).blk,off,0,(g.loc τ).cap,false⟩,_,rfl,hrun,hI.move hlive _ ⟨(g.loc τ).blk,off,0,(g.loc τ).cap,false⟩ rfl rfl (fun _ _=>rfl) rfl rfl rfl ?_,?_,hx⟩
   ·refine ⟨by rw[g.new_self]; rfl,by rw[g.new_self]; exact Nat.zero_le _,.inr ⟨by rw[g.new_self],cc,ee,[],by rw[g.new_self]; exact p4,rfl,fun j v hv=>by simp at hv,?_⟩⟩;rw[g.new_self];show off+(g.loc τ).cap * 1 <= _;omega
   ·refine RV_one rfl ⟨.inr rfl,?_⟩;rw[g.new_self]; rfl
  ·have hoff:off=(g.loc τ).base:=by have:=p2 (by omega); omega
   have hcell:∀ j (h:j < xs.length),cc[off+j]?=some (Value.int .i64 xs[j]):=fun j h=>by
    rw[hoff]; exact p6 _ _ (by rw[hcells]; simp[h])
   have hHold:Go.Sort.Holds (Value.int .i64) w (g.loc τ).blk off xs.toArray:=by
    intro j hj;have hj':j < xs.length:=hj
    have hz:xs.toArray[j]! = xs[j]:=by
     rw[getElem!_def,List.getElem?_toArray,List.getElem?_eq_getElem hj']
    refine ⟨?_,by simp[World.frozen?,p4]⟩;simp only[World.cell?,p4];rw[hz];exact hcell j hj'
   have h62:xs.length <= 4294967296:=by
    have h:=hfits;unfold fits at h;simpa using h
   refine (hS (g.loc τ).blk off (g.loc τ).cap xs w hHold (by omega) (by omega)).mono ?_;rintro e w' ⟨rfl,q,hW⟩;obtain ⟨zs,hzd⟩:∃ zs,zs=Y4h xs:=⟨_,rfl⟩
   have hzl:zs.length <= xs.length:=by rw[hzd]; exact Y4o xs
   have hW:w'=putRow (Value.int .i64) (Go.Sort.ahead w q) (g.loc τ).blk off (zs++List.replicate (xs.length - zs.length) 0).toArray:=by rw[hzd]; exact hW
   rw[show Go.Lib.compact xs=zs by rw[hzd]; rfl];rw[<- hzd] at hrun;have hblt:(g.loc τ).blk < w.heap.size:=Yb1 p4
   have hoth:∀ b,b ≠ (g.loc τ).blk->w'.heap[b]?=w.heap[b]?:=by
    intro b hne;rw[hW];simp[putRow,mapBlock,Go.Sort.ahead,Array.getElem?_modify,Ne.symm hne]
   have hat:w'.heap[(g.loc τ).blk]?=some (.cells (putCells (Value.int .i64) off (zs++List.replicate (xs.length - zs.length) 0).toArray cc) ee (0,0)):=by
    rw[hW];simp[putRow,mapBlock,Go.Sort.ahead,Array.getElem?_modify,p4,onCells]
   have hgs:w'.heap.size=w.heap.size:=by
    rw[hW];simp[putRow,mapBlock,Go.Sort.ahead]
   have ho1:w'.os=w.os:=by rw[hW]; rfl
   have ho2:w'.tape=w.tape:=by rw[hW]; rfl
   have ho3:w'.output=w.output:=by rw[hW]; rfl
   have hx:=Ext.move hI.ndom hlive (.row (.int .i64) zs) ⟨(g.loc τ).blk,off,zs.length,(g.loc τ).cap,false⟩ rfl hgs hoth ho1 ho2 ho3;refine .inl ⟨.sl g.n,_,g.new ⟨(g.loc τ).blk,off,zs.length,(g.loc τ).cap,false⟩,_,rfl,hrun,hI.move hlive _ ⟨(g.loc τ).blk,off,zs.length,(g.loc τ).cap,false⟩ rfl hgs hoth ho1 ho2 ho3 ?_,?_,hx⟩
   ·refine ⟨by rw[g.new_self]; rfl,by rw[g.new_self]; show zs.length <= (g.loc τ).cap; omega,.inr ⟨by rw[g.new_self],_,ee,zs.map (Value.int .i64),by rw[g.new_self]; exact hat,rdl_int' _,fun j v hv=>?_,?_⟩⟩
    ·have hjl:j < zs.length:=by
      have:=(List.getElem?_eq_some_iff.1 hv).1
      rwa [List.length_map] at this
     rw[g.new_self];show (putCells _ off _ cc)[off+j]?=_;rw[Yf0,hcell j (by omega),if_pos (by simp; omega)];rw[List.getElem?_map,List.getElem?_eq_getElem hjl] at hv
     have:(zs++List.replicate (xs.length - zs.length) 0).toArray[off+j - off]! = zs[j]:=by
      rw[show off+j - off=j by omega,getElem!_def,List.getElem?_toArray,List.getElem?_append_left hjl,List.getElem?_eq_getElem hjl]
     rw[Option.map_some,this];exact hv
    ·rw[g.new_self];show off+(g.loc τ).cap * 1 <= _;have hps:∀ d:Array Int,(putCells (Value.int .i64) off d cc).size=cc.size:=fun d=>by simp[putCells]
     rw[hps];omega
   ·refine RV_one rfl ⟨.inr rfl,?_⟩;rw[g.new_self]; rfl
theorem Y4q (hfn:∃ fn,P.funcs[f]?=some fn/\fn.body.isSome=true/\fn.name ≠ "runtime.NumGoroutine")
  (hS:∀ (blk off cap:Nat) (zs:List Int) (w:World),Go.Sort.Holds (Value.int .i64) w blk off zs.toArray->zs.length <= 9223372036854775807->zs.length <= cap ->
   Calls P f #[.slice (some ⟨blk,off,none⟩) zs.length cap] w fun e w'=>e=.returned (.slice (some ⟨blk,off,none⟩) (Go.Lib.compact zs).length cap)/\∃ q,w'=putRow (Value.int .i64) (Go.Sort.ahead w q) blk off (Go.Lib.compact zs++List.replicate (zs.length - (Go.Lib.compact zs).length) 0).toArray)
  (hN:∀ (p:Option Addr) (cap:Nat) (w:World),Calls P f #[.slice p 0 cap] w fun e w'=>e=.returned (.slice p 0 cap)/\w'=w):Sound P f Y4k:=by
 refine ⟨Y4l,hfn,?_⟩;intro R args m g k kp r X w vs hrun hI hrt hargs;simp only[Y4k] at hrun;split at hrun
 ·rename_i v
  match vs,hargs with
  | [cv],⟨hv,_⟩ =>
   cases hn:isNl v with
   | true =>
    rw[hn,cond_true] at hrun;have e:=Y9h hn;subst e;have e:=(List.cons.inj (hv.2 rfl)).1;subst e;refine (hN none 0 w).mono ?_;rintro e w' ⟨rfl,rfl⟩;exact .inl ⟨.nl,m,g,_,rfl,hrun,hI,hv,Ext.refl _ _ _⟩
   | false =>
    rw[hn,cond_false] at hrun;split at hrun
    ·rename_i τ;split at hrun
     ·rename_i xs hd;obtain ⟨h1,h2⟩:=Yft hrun;have hm:=Yg5 hd;exact Y4n xs hS hN hI hm (Yg6 hI hm hv) h1 h2
     ·cases hrun
    ·cases hrun
 ·cases hrun
end
end Go.Proofs.YtifbgkikkiallaaGreat.VX

