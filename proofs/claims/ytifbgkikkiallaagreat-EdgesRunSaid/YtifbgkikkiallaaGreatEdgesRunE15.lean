import Derived.Test.YtifbgkikkiallaaGreatEdgesRunE14
import Derived.Carry
import Derived.OpenShut
import Derived.Below
import Derived.Test.YtifbgkikkiallaaGreatEdgesRunE12
set_option linter.unusedVariables false
set_option linter.unusedSimpArgs false
namespace Go.Proofs.YtifbgkikkiallaaGreat.VX
open Go.RowKit Go.ChangeShapes Go.WideShapes Go.Deep
variable {P:Program} {W:World}
def wfHL:(ts:List Ty)->HL ts->Prop
 | [],_=>True
 | [t],x=>t.wf x
 | t :: u :: l,x=>t.wf x.1/\wfHL (u :: l) x.2
def tysB (P:Program) (n:Nat):List TypeId->List Ty->Bool
 | [],[]=>true
 | t :: ts,ty :: tys=>tyB P n t ty && tysB P n ts tys
 | _,_=>false
theorem Ydi {t:TypeId} {r:Reach} {b0:Nat} {v:Value} (h:Value.okWide P W r b0 t v) {d:TypeDesc} (hd:P.underlying t=some d) (hk:(∃ k,d=.int k) \/ d=.bool \/ d=.string \/ ∃ e,d=.slice e):v.cells.toList=[v]:=by
 rcases hk with ⟨k,rfl⟩ | rfl | rfl | ⟨e,rfl⟩
 ·simp only[Value.okWide,hd,Cell.okWide] at h;cases v <;> simp_all[Cell.ok,Value.cells]
 ·simp only[Value.okWide,hd,Cell.okWide] at h;cases v <;> simp_all[Cell.ok,Value.cells]
 ·simp only[Value.okWide,hd,Cell.okWide] at h;cases v <;> simp_all[Cell.ok,Value.cells]
 ·obtain ⟨a,l,c,rfl⟩:=okWide_slice hd h;simp[Value.cells]
theorem Yk1 {H:Type} {enc:TypeId × Value->H} {base:Nat} {spare:Nat->Bool} {held:Bool} {n:Nat} {t:TypeId} {ty:Ty} (hb:tyB P n t ty=true) {r:Reach} {b0:Nat} {v:Value} {d:DataW H} {p:List MemPlace}
  (hv:Value.okWide P W r b0 t v) (h:DataW.Trod enc P W base spare held t v d p):∃ a:ty.T,(∀ g,RV g W (fun _=>True) (.d ty a) v)/\ty.wf a:=by
 obtain ⟨fuel,hf⟩:=h;obtain ⟨a,h1,h2⟩:=(tyB_ok n t ty hb).2 enc W base spare held fuel _ _ hf;refine ⟨a,?_,h2⟩;have hb0:=hb;cases n with
 | zero=>cases hb
 | succ n =>
  simp only[tyB,ba9] at hb;obtain ⟨_,hb⟩:=hb
  have one:ty.isAgg=false->v.cells.toList=[v]->∀ g,RV g W (fun _=>True) (.d ty a) v:=by
   intro e1 e2 g;rw[e2] at h1;refine ⟨fun e=>?_,fun _=>h1⟩;have e:ty.isAgg=true:=e;rw[e1] at e; cases e
  split at hb
  ·rename_i k hu;cases ty with
   | int k'=>exact one rfl (Ydi hv hu (.inl ⟨k,rfl⟩))
   | _=>cases hb
  ·rename_i hu;cases ty with
   | bool=>exact one rfl (Ydi hv hu (.inr (.inl rfl)))
   | _=>cases hb
  ·rename_i hu;cases ty with
   | str=>exact one rfl (Ydi hv hu (.inr (.inr (.inl rfl))))
   | _=>cases hb
  ·rename_i e hu;cases ty with
   | slice a=>exact one rfl (Ydi hv hu (.inr (.inr (.inr ⟨e,rfl⟩))))
   | _=>cases hb
  ·rename_i fs hu;obtain ⟨⟨cs⟩,rfl,_⟩:=okWide_struct hu hv
   have hag:ty.isAgg=true:=by
    generalize fs.toList=l at hb
    match l,hb with
    | [x],hb=>cases ty <;> first | rfl | cases hb
    | x :: y :: xs,hb=>cases ty <;> first | rfl | cases hb
   intro g;have h1':Rd W (fun _=>True) ty a cs:=by simpa[Value.cells] using h1
   refine ⟨fun _=>⟨cs,rfl,h1'⟩,fun e=>?_⟩;have e:ty.isAgg=false:=e;rw[hag] at e; cases e
  ·cases hb
theorem trodAll_data {H:Type} {enc:TypeId × Value->H} {base:Nat} {spare:Nat->Bool} {held:Bool} {n:Nat} {r:Reach} {b0:Nat}:∀ {ts:List TypeId} {tys:List Ty} {vs:List Value} {ds:List (DataW H)} {p:List MemPlace},tysB P n ts tys=true ->
  (∀ (j:Nat) t v,ts[j]?=some t->vs[j]?=some v->Value.okWide P W r b0 t v)->DataW.TrodAll enc P W base spare held ts vs ds p->∃ x:HL tys,Y4 W (fun _=>True) tys x vs/\wfHL tys x
 | [],[],vs,ds,p,_,_,h=>by
  obtain ⟨rfl,_,_⟩:=trodAll_nil h;exact ⟨(),rfl,trivial⟩
 | t :: ts,ty :: tys,vs,ds,p,hb,hv,h=>by
  have hb:(tyB P n t ty && tysB P n ts tys)=true:=hb;rw[ba9] at hb;obtain ⟨v,vs',d,ds',p1,q,rfl,rfl,rfl,h1,h2⟩:=trodAll_cons h;obtain ⟨a,a1,a2⟩:=Yk1 hb.1 (hv 0 t v rfl rfl) h1;obtain ⟨x,x1,x2⟩:=trodAll_data hb.2 (fun j t v e1 e2=>hv (j+1) t v (by simpa using e1) (by simpa using e2)) h2;cases tys with
  | nil =>
   have x1:vs'=[]:=x1;subst x1;exact ⟨a,⟨v,rfl,a1⟩,a2⟩
  | cons u l=>exact ⟨(a,x),⟨v,vs',rfl,a1,x1⟩,a2,x2⟩
 | [],_ :: _,_,_,_,h,_,_=>by cases h
 | _ :: _,[],_,_,_,h,_,_=>by cases h
theorem trodAll_below {H:Type} {enc:TypeId × Value->H} {W':World} (hl:laidOutB P=true) (hb:Below W.heap.size W W'):∀ {ts:List TypeId} {vs:List Value} {ds:List (DataW H)} {p:List MemPlace},(∀ t ∈ ts,P.readableRec t=true/\t < P.types.size) ->
  DataW.TrodAll enc P W 0 (fun _=>true) true ts vs ds p->DataW.TrodAll enc P W' 0 (fun b=>decide (b < W.heap.size)) true ts vs ds p
 | [],vs,ds,p,_,h=>by
  obtain ⟨rfl,rfl,rfl⟩:=trodAll_nil h;exact trodAll_mk0
 | t :: ts,vs,ds,p,ht,h=>by
  obtain ⟨v,vs',d,ds',p1,q,rfl,rfl,rfl,h1,h2⟩:=trodAll_cons h;obtain ⟨q1,q2⟩:=ht t (by simp);have lt:∀ x ∈ p1,x.block < W.heap.size:=by obtain ⟨m,hm⟩:=h1; exact DataW.trod_lt m _ _ _ hm
  exact trodAll_cons_mk (Below.trod hl q1 q2 h1 hb lt) (trodAll_below hl hb (fun t ht'=>ht t (by simp[ht'])) h2)
theorem law_calls {f:FuncId} {tys:List Ty} {F:HL tys->Option (HL [Ty.bool])} (hs:Sound P f (Spec.pure tys [.bool] F)) {x:HL tys} {vs:List Value} (hx:Y4 W (fun _=>True) tys x vs) (hF:F x=some true) :
  Calls P f vs.toArray W fun e W'=>e=.returned (.bool true)/\Below W.heap.size W W':=by
 let g0:G:={ loc:=fun _=>default,n:=0,dom:=fun _=>False,rt:=rtOf P }
 have hI:Inv g0 (fun _=>False) [] W:=⟨fun τ=>trivial,fun τ τ' h=>(by cases h.1),fun τ h=>(by cases h.1),fun b hb=>hb.elim,fun τ _=>rfl,fun τ h=>h.elim,fun τ i h=>(by cases h.1)⟩
 have hok:Holds W (fun _=>True) W (okB (fun _=>False) g0 []):=fun b _ _=>⟨⟨fun h=>h,Ye1⟩,rfl⟩
 have ha:ArgsOK g0 W (okB (fun _=>False) g0 []) (ofHL tys x) vs:=(Y4.mono hok tys x vs hx).args g0
 have htk:∀ (ts:List Ty) (y:HL ts),toHL [] ts (ofHL ts y)=some y/\toksL (ofHL ts y)=[]:=by
  intro ts
  have dd:∀ (t:Ty) (y:t.T),AV.data [] (.d t y) t=some y:=by
   intro t y
   have same:∀ t:Ty,∃ h,Ty.same t t=some ⟨h⟩:=by
    intro t;induction t with
    | int k=>exact ⟨rfl,by simp[Ty.same,Nat.beq_refl]⟩
    | bool=>exact ⟨rfl,rfl⟩
    | str=>exact ⟨rfl,rfl⟩
    | pair a b ih1 ih2 =>
     obtain ⟨h1,e1⟩:=ih1;obtain ⟨h2,e2⟩:=ih2;exact ⟨rfl,by simp only[Ty.same,e1,e2]⟩
    | one a ih=>obtain ⟨h1,e1⟩:=ih; exact ⟨rfl,by simp only[Ty.same,e1]⟩
    | slice a ih=>obtain ⟨h1,e1⟩:=ih; exact ⟨rfl,by simp only[Ty.same,e1]⟩
    | arr n a ih=>obtain ⟨h1,e1⟩:=ih; exact ⟨rfl,by simp only[Ty.same,e1]; simp⟩
   obtain ⟨h,e⟩:=same t;have:AV.data [] (.d t y) t=Ty.conv t t y:=by cases t <;> rfl
   rw[this];unfold Ty.conv;rw[e]; rfl
  match ts with
  | []=>intro y; exact ⟨rfl,rfl⟩
  | [t]=>intro y; exact ⟨dd t y,rfl⟩
  | t :: u :: l =>
   intro y
   have ih:∀ (ts:List Ty) (y:HL ts),toHL [] ts (ofHL ts y)=some y/\toksL (ofHL ts y)=[]:=by
    intro ts;induction ts with
    | nil=>intro y; exact ⟨rfl,rfl⟩
    | cons t l ih =>
     cases l with
     | nil=>intro y; exact ⟨dd t y,rfl⟩
     | cons u l =>
      intro y;obtain ⟨h1,h2⟩:=ih y.2;refine ⟨?_,?_⟩
      ·show (match AV.data [] (.d t y.1) t,toHL [] (u :: l) (ofHL (u :: l) y.2) with | some x,some z=>some (x,z) | _,_=>none)=some y;rw[dd,h1]; rfl
      ·show []++toksL (ofHL (u :: l) y.2)=[]
       rw[h2]; rfl
   exact ih _ y
 obtain ⟨t1,t2⟩:=htk tys x
 have hrun:(Spec.pure tys [.bool] F).run (R:=AV × Unit) (ofHL tys x) [] 0 (fun v _ _=>some (v,())) (fun _ _ _=>none)=some (.d .bool true,()):=by
  simp only[Spec.pure,t2];show (match toHL [] tys (ofHL tys x) with | some x=>_ | none=>none)=_;rw[t1];simp only[hF];rfl
 refine (hs.2.2 (ofHL tys x) [] g0 _ _ _ (fun _=>False) W vs hrun hI rfl ha).mono fun e W' hpost=>?_
 rcases hpost with ⟨v,m',g',cv,rfl,q1,q2,q3,q4⟩ | ⟨v,m',g',cv,rfl,q1,_⟩
 ·have q1:=congrArg (fun p=>p.1) (oi9 q1);have q1:v=.d .bool true:=q1;subst q1;rw[Y2v q3];exact ⟨rfl,q4.os,q4.tape,q4.output,q4.size,fun k hk=>q4.keep k hk Ye1⟩
 ·cases q1
end Go.Proofs.YtifbgkikkiallaaGreat.VX
namespace Go.Proofs.YtifbgkikkiallaaGreat.VX
def bodyOf (f:Func):Code:=match f.body with | some c=>c | none=>.skip
def Y6o (n:Nat):Code->List Code
 | .seq a b=>Y6o n a++Y6o n b
 | .cond _ a b=>Y6o n a++Y6o n b
 | .block _ a=>Y6o n a
 | .scope a=>Y6o n a
 | .loop a=>(bif Nat.beq (Code.firstId a) n then [a] else [])++Y6o n a
 | _=>[]
noncomputable def loopOf (n:Nat) (f:Func):Code:=(Y6o n (bodyOf f)).headD .skip
theorem SumOK.nil {P:Program} {C:Ctx} (h:C.sum=[]) (c:Code):SumOK P C c:=by intro t n s hs; rw[h] at hs; cases hs
def SumAll (P:Program) (nt:EK) (c:Code):List (Nat × Nat × CSpec)->Prop
 | []=>True
 | (t,n,s) :: l=>(∀ d ∈ pieces t n c,CSound P nt d s)/\SumAll P nt c l
theorem SumOK.of {P:Program} {C:Ctx} {c:Code} (h:SumAll P C.ek c C.sum):SumOK P C c:=by
 have:∀ l,SumAll P C.ek c l->∀ t n s,sumget t n l=some s->∀ d ∈ pieces t n c,CSound P C.ek d s:=by
  intro l;induction l with
  | nil=>intro _ t n s hs; cases hs
  | cons e l ih =>
   obtain ⟨t',n',s'⟩:=e;intro hl t n s hs0;have hs:(bif Nat.beq t t' && Nat.beq n n' then some s' else sumget t n l)=some s:=hs0;clear hs0;cases hb:Nat.beq t t' && Nat.beq n n' with
   | true =>
    rw[hb] at hs;rw[ba9] at hb;have e1:=eb9 hb.1;have e2:=eb9 hb.2;subst e1 e2;cases hs;exact hl.1
   | false=>rw[hb] at hs; exact ih hl.2 t n s hs
 exact this C.sum h
theorem pieces_one {P:Program} {nt:EK} {t n:Nat} {c d:Code} {s:CSpec} (h:pieces t n c=[d]) (hs:CSound P nt d s):∀ e ∈ pieces t n c,CSound P nt e s:=by
 intro e he;rw[h] at he;rw[List.mem_singleton.1 he]; exact hs
theorem pieces_none {P:Program} {nt:EK} {t n:Nat} {c:Code} {s:CSpec} (h:pieces t n c=[]):∀ e ∈ pieces t n c,CSound P nt e s:=by
 intro e he;rw[h] at he; cases he
def findRF (n:Nat):Code->List Code
 | .seq a b=>findRF n a++findRF n b
 | .cond _ a b=>findRF n a++findRF n b
 | .block _ a=>findRF n a
 | .scope a=>findRF n a
 | .loop a=>findRF n a
 | .rangeFunc f ps a b=>(bif Nat.beq (Code.firstId a) n then [.rangeFunc f ps a b] else [])++findRF n b
 | _=>[]
noncomputable def rfOf (n:Nat) (f:Func):Code:=(findRF n (bodyOf f)).headD .skip
def rfF:Code->Operand
 | .rangeFunc f _ _ _=>f
 | _=>.tmp 0
def rfPs:Code->Array Tmp
 | .rangeFunc _ ps _ _=>ps
 | _=>#[]
def rfAs:Code->Code
 | .rangeFunc _ _ a _=>a
 | _=>.skip
def rfBody:Code->Code
 | .rangeFunc _ _ _ b=>b
 | _=>.skip
def isRF:Code->Bool
 | .rangeFunc _ _ _ _=>true
 | _=>false
theorem Yfb {P:Program} {c:Code} (hc:isRF c=true) {id nt pin:Nat} (hrt:rtOf P id=some ⟨rfPs c,rfAs c,rfBody c,nt⟩) {fx:List (FuncId × List FuncId × Spec)} (hfx:∀ f cl s,fxget f cl fx=some s->Sound P f s) (slots exs:List Nat) :
  CSound P ⟨nt,pin,true⟩ c (Yfa (rfF c) id slots exs fx):=by
 cases c with
 | rangeFunc f ps as body=>exact Yfe hrt hfx slots exs
 | _=>cases hc
def YsAll (P:Program):List (Nat × List Nat × Spec)->Prop
 | []=>True
 | (id,sl,s) :: l=>YSound P id sl s/\YsAll P l
def FxAll (P:Program):List (FuncId × List FuncId × Spec)->Prop
 | []=>True
 | (f,cl,s) :: l=>Sound P f s/\FxAll P l
theorem Y7s {P:Program} {fx:List (FuncId × List FuncId × Spec)} (hf:FxAll P fx):∀ f cl s,fxget f cl fx=some s->Sound P f s:=by
 have:∀ l,FxAll P l->∀ f cl s,fxget f cl l=some s->Sound P f s:=by
  intro l;induction l with
  | nil=>intro _ f cl s hs; cases hs
  | cons e l ih =>
   obtain ⟨f',cl',s'⟩:=e;intro hl f cl s hs0;have hs:(bif Nat.beq f f' && beqNs cl cl' then some s' else fxget f cl l)=some s:=hs0;clear hs0;cases hb:Nat.beq f f' && beqNs cl cl' with
   | true =>
    rw[hb] at hs;rw[ba9] at hb;have e1:=eb9 hb.1;subst e1;cases hs;exact hl.1
   | false=>rw[hb] at hs; exact ih hl.2 f cl s hs
 exact this fx hf
theorem Yfc {P:Program} {c:Code} (hc:isRF c=true) {id nt pin:Nat} (hrt:rtOf P id=some ⟨rfPs c,rfAs c,rfBody c,nt⟩) {f:FuncId} {cl:List FuncId} {s:Spec} (hs:Sound P f s) (slots exs:List Nat) :
  CSound P ⟨nt,pin,true⟩ c (Yfa (rfF c) id slots exs [(f,cl,s)]) :=
 Yfb hc hrt (Y7s (fx:=[(f,cl,s)]) ⟨hs,trivial⟩) slots exs
theorem ctxOK {P:Program} {C:Ctx} {tbl:List (Nat × TI × ZT)} (hm:P.follows .mixedOrders=true) (ht:tbB P tbl=true) (hC:C.tb=mkTb tbl) (hf:FxAll P C.fx) (hy:YsAll P C.ys:=by trivial) (hmi:∀ (R:Type) f cl args m N k kp,C.miss (R:=R) f cl args m N k kp=none:=by intros; rfl):CtxOK P C:=by
 refine ⟨hmi,?_,by rw[hC]; exact tbB_ok ht,Y7s hf,hm⟩
 have:∀ l,YsAll P l->∀ id sl s,ysget id l=some (sl,s)->YSound P id sl s:=by
  intro l;induction l with
  | nil=>intro _ f cl s hs; cases hs
  | cons e l ih =>
   obtain ⟨id',sl',s'⟩:=e;intro hl id sl s hs0;have hs:(bif Nat.beq id' id then some (sl',s') else ysget id l)=some (sl,s):=hs0;clear hs0;cases hb:Nat.beq id' id with
   | true =>
    rw[hb] at hs;have e1:=eb9 hb;subst e1;cases hs;exact hl.1
   | false=>rw[hb] at hs; exact ih hl.2 id sl s hs
 exact this C.ys hy
def AV.same:AV->AV->Bool
 | .pr a b,.pr c e=>a.same c && b.same e
 | .one a,.one b=>a.same b
 | .nl,.nl=>true
 | .sl τ,.sl σ=>Nat.beq τ σ
 | .ptr τ p,.ptr σ q=>Nat.beq τ σ && Yee p q
 | .nilp,.nilp=>true
 | .mp τ,.mp σ=>Nat.beq τ σ
 | .nilm,.nilm=>true
 | .fn f a b,.fn h c e=>Nat.beq f h && (a.same c && b.same e)
 | .nilf,.nilf=>true
 | .ifc t v,.ifc s u=>Nat.beq t s && v.same u
 | .nili,.nili=>true
 | .nil,.nil=>true
 | .cons a b,.cons c e=>a.same c && b.same e
 | _,_=>false
theorem AV.same_eq:∀ (a b:AV),a.same b=true->a=b
 | .pr a b,.pr c e,h=>by
  simp only[AV.same,ba9] at h;rw[AV.same_eq a c h.1,AV.same_eq b e h.2]
 | .one a,.one b,h=>by rw[AV.same_eq a b h]
 | .nl,.nl,_=>rfl
 | .sl τ,.sl σ,h=>by rw[eb9 h]
 | .ptr τ p,.ptr σ q,h=>by
  simp only[AV.same,ba9] at h;rw[eb9 h.1,Yef p q h.2]
 | .nilp,.nilp,_=>rfl
 | .mp τ,.mp σ,h=>by rw[eb9 h]
 | .nilm,.nilm,_=>rfl
 | .fn f a b,.fn h' c e',h=>by
  simp only[AV.same,ba9] at h;have e:f=h':=eb9 h.1;rw[e,AV.same_eq a c h.2.1,AV.same_eq b e' h.2.2]
 | .nilf,.nilf,_=>rfl
 | .ifc t v,.ifc s u,h=>by
  simp only[AV.same,ba9] at h;have e:t=s:=eb9 h.1;rw[e,AV.same_eq v u h.2]
 | .nili,.nili,_=>rfl
 | .nil,.nil,_=>rfl
 | .cons a b,.cons c e,h=>by
  simp only[AV.same,ba9] at h;rw[AV.same_eq a c h.1,AV.same_eq b e h.2]
def Blk.same:Blk->Blk->Bool
 | .var a,.var b=>a.same b
 | .fm ks a,.fm ls b=>beqIs ks ls && a.same b
 | _,_=>false
theorem Blk.same_eq:∀ (a b:Blk),a.same b=true->a=b
 | .var a,.var b,h=>by rw[AV.same_eq a b h]
 | .fm ks a,.fm ls b,h=>by
  simp only[Blk.same,ba9] at h;rw[Y2e h.1,AV.same_eq a b h.2]
def thinL:Nat->Mem->Mem
 | 0,m=>m
 | _+1,[]=>[]
 | n+1,(τ,B) :: l=>bif B.same (mget τ (thinL n l)) then thinL n l else (τ,B) :: thinL n l
theorem Yjs (σ:Nat):∀ (n:Nat) (m:Mem),mget σ (thinL n m)=mget σ m
 | 0,m=>rfl
 | _+1,[]=>rfl
 | n+1,(τ,B) :: l=>by
  have ih:=Yjs σ n l;simp only[thinL];cases hb:B.same (mget τ (thinL n l)) with
  | true =>
   rw[cond_true,ih,Ybs];by_cases e:τ=σ
   ·subst e; rw[if_pos rfl,Blk.same_eq _ _ hb,ih]
   ·rw[if_neg e]
  | false =>
   rw[cond_false,Ybs,Ybs,ih]
theorem Yjt (m:Mem):∀ δ:Mem,∃ δ',thinL δ.length (δ++m)=δ'++m
 | []=>⟨[],rfl⟩
 | (τ,B) :: δ=>by
  obtain ⟨δ',h⟩:=Yjt m δ;simp only[List.length_cons,List.cons_append,thinL];rw[h];cases B.same (mget τ (δ'++m)) with
  | true=>exact ⟨δ',rfl⟩
  | false=>exact ⟨(τ,B) :: δ',rfl⟩
def thin (m m':Mem):Mem:=thinL (m'.length - m.length) m'
theorem Yju (m m':Mem) (σ:Nat):mget σ (thin m m')=mget σ m':=Yjs σ _ _
theorem Yjv (m δ:Mem):∃ δ',thin m (δ++m)=δ'++m:=by
 unfold thin;rw[ln9,Nat.add_sub_cancel];exact Yjt m δ
def Spec.thin (s:Spec):Spec:=⟨fun args m N k kp=>s.run args m N (fun v m' N'=>k v (VX.thin m m') N') (fun v m' N'=>kp v (VX.thin m m') N')⟩
section
variable {g:G} {X:Nat->Prop} {m m':Mem} {w:World}
theorem Lv.eqm (h:∀ τ,mget τ m'=mget τ m) (τ:Nat):Lv g m' τ ↔ Lv g m τ:=by unfold Lv; rw[h]
theorem Sb.eqm (h:∀ τ,mget τ m'=mget τ m) (τ i:Nat):Sb g m' τ i ↔ Sb g m τ i:=by unfold Sb; rw[h]
theorem Own.eqm (h:∀ τ,mget τ m'=mget τ m) (b:Nat):Own g m' b ↔ Own g m b:=by
 unfold Own OwnL OwnS;simp only[Lv.eqm h,Sb.eqm h]
theorem okB.eqm (h:∀ τ,mget τ m'=mget τ m):okB X g m'=okB X g m:=by
 funext b;unfold okB;rw[propext (Own.eqm h b)]
theorem Inv.eqm (h:∀ τ,mget τ m'=mget τ m) (hI:Inv g X m w):Inv g X m' w :=
 ⟨fun τ=>by rw[okB.eqm h,h]; exact hI.ok τ,fun τ τ' a b c=>hI.inj τ τ' ((Lv.eqm h τ).1 a) ((Lv.eqm h τ').1 b) c,fun τ a=>hI.far τ ((Lv.eqm h τ).1 a),hI.xlt,fun τ a=>by rw[h]; exact hI.fresh τ a,hI.dlt,fun τ i k=>by simp only[Lv.eqm h,Sb.eqm h] at k ⊢; exact hI.sb τ i k⟩
theorem Ext.eqm {g0:G} {m0:Mem} {w0:World} (h:∀ τ,mget τ m'=mget τ m) (hx:Ext g0 m0 w0 g m w):Ext g0 m0 w0 g m' w :=
 ⟨hx.gx,hx.nw,hx.size,hx.keep,fun b hb=>hx.own b ((Own.eqm h b).1 hb),hx.os,hx.tape,hx.output⟩
end
theorem Sound.thin {P:Program} {f:FuncId} {s:Spec} (h:Sound P f s):Sound P f s.thin:=by
 obtain ⟨h1,h2,h3⟩:=h;refine ⟨fun args m N R k kp r hr=>?_,h2,fun {R} args m g k kp r X w vs hr hI hrt ha=>?_⟩
 ·rcases h1 args m N _ _ r hr with ⟨v,δ,N',hq⟩ | ⟨v,δ,N',hq⟩
  ·obtain ⟨δ',hδ⟩:=Yjv m δ;exact .inl ⟨v,δ',N',fun k' kp'=>(hq _ _).trans (by rw[hδ])⟩
  ·obtain ⟨δ',hδ⟩:=Yjv m δ;exact .inr ⟨v,δ',N',fun k' kp'=>(hq _ _).trans (by rw[hδ])⟩
 ·refine (h3 args m g _ _ r X w vs hr hI hrt ha).mono ?_;rintro e w' (⟨v,m',g',cv,q1,q2,q3,q4,q5⟩ | ⟨v,m',g',cv,q1,q2,q3,q4,q5⟩)
  ·exact .inl ⟨v,_,g',cv,q1,q2,q3.eqm (Yju m m'),by rw[okB.eqm (Yju m m')]; exact q4,q5.eqm (Yju m m')⟩
  ·exact .inr ⟨v,_,g',cv,q1,q2,q3.eqm (Yju m m'),by rw[okB.eqm (Yju m m')]; exact q4,q5.eqm (Yju m m')⟩
def Pat.exact:Pat->AV->Bool
 | .hole _,.d _ _=>true
 | .pr a b,.pr u v=>a.exact u && b.exact v
 | .one a,.one u=>a.exact u
 | .nl,.nl=>true
 | .sl _,.sl _=>true
 | .ptr _ _,.ptr _ _=>true
 | .nilp,.nilp=>true
 | .mp _,.mp _=>true
 | .nilm,.nilm=>true
 | .fn _ a b,.fn _ u v=>a.exact u && b.exact v
 | .nilf,.nilf=>true
 | .nili,.nili=>true
 | .ifc _ a,.ifc _ u=>a.exact u
 | .nil,.nil=>true
 | .cons a b,.cons u v=>a.exact u && b.exact v
 | _,_=>false
def BPat.exact:BPat->Blk->Bool
 | .var p,.var v=>p.exact v
 | .mp _ _,.mp _ _ _=>true
 | .fm _ p,.fm _ v=>p.exact v
 | _,_=>false
section
variable {m:Mem} {ρ:Nat->Nat} {asF:Asg}
theorem Y25 {j:Nat} {v:Option Nat} {as as':Asg} (h:asgn j v as=some as'):alook j as'=some v:=(Y26 h).2
theorem Yec (hρ:∀ j τ,alook j asF=some (some τ)->ρ j=τ):∀ (p:Pat) (v:AV) (as:Asg) (ds:List Dyn) (as':Asg),p.mt m v as=some (ds,as')->p.exact v=true->Sub as' asF->∀ rest,
  (p.fill (ds++rest)).1.ren ρ=v/\(p.fill (ds++rest)).2=rest
 | .hole t,.d t' x,as,ds,as',h,_,_,rest=>by
  simp only[Pat.mt] at h;split at h
  ·rename_i y hy;cases h;have hy:Ty.conv t' t x=some y:=by cases t <;> exact hy
   obtain ⟨e,he⟩:=Y4v hy;cases e;have he:y=x:=he;subst he;exact ⟨rfl,rfl⟩
  ·cases h
 | .pr a b,.pr u v,as,ds,as',h,hx,hs,rest=>by
  simp only[Pat.exact,ba9] at hx;simp only[Pat.mt,AV.split] at h;split at h
  ·rename_i d1 as1 h1;split at h
   ·rename_i d2 as2 h2;cases h;have s1:Sub as1 asF:=(Y2r.mt_sub h2).trans hs;obtain ⟨q1,q2⟩:=Yec hρ a u as d1 as1 h1 hx.1 s1 (d2++rest);obtain ⟨q3,q4⟩:=Yec hρ b v as1 d2 as' h2 hx.2 hs rest;simp only[Pat.fill,AV.ren,la9,q1,q2,q3,q4,and_self]
   ·cases h
  ·cases h
 | .one a,.one u,as,ds,as',h,hx,hs,rest=>by
  simp only[Pat.mt,AV.sel] at h;obtain ⟨q1,q2⟩:=Yec hρ a u as ds as' h hx hs rest;simp only[Pat.fill,AV.ren,q1,q2,and_self]
 | .nl,.nl,as,ds,as',h,_,_,rest=>by cases h; exact ⟨rfl,rfl⟩
 | .sl j,.sl τ,as,ds,as',h,_,hs,rest=>by
  obtain ⟨e,h'⟩:=Ycz (x:=asgn j (some τ) as) h;subst e;have:=hρ j τ (hs _ _ (Y25 h'));simp only[Pat.fill,AV.ren,this]; exact ⟨trivial,rfl⟩
 | .ptr j p,.ptr τ q,as,ds,as',h,_,hs,rest=>by
  simp only[Pat.mt] at h;obtain ⟨e,h'⟩:=Y5q h;have:=hρ j τ (hs _ _ (Y25 h'));simp only[Pat.fill,AV.ren,this,Yeh p q ds e,and_self]
 | .nilp,.nilp,as,ds,as',h,_,_,rest=>by cases h; exact ⟨rfl,rfl⟩
 | .mp j,.mp τ,as,ds,as',h,_,hs,rest=>by
  obtain ⟨e,h'⟩:=Ycz (x:=asgn j (some τ) as) h;subst e;have:=hρ j τ (hs _ _ (Y25 h'));simp only[Pat.fill,AV.ren,this]; exact ⟨trivial,rfl⟩
 | .nilm,.nilm,as,ds,as',h,_,_,rest=>by cases h; exact ⟨rfl,rfl⟩
 | .fn f a b,.fn f' u v,as,ds,as',h,hx,hs,rest=>by
  simp only[Pat.exact,ba9] at hx;simp only[Pat.mt] at h;obtain ⟨hf,h⟩:=Y2j h;have hf:f=f':=eb9 hf;split at h
  ·rename_i d1 as1 h1;split at h
   ·rename_i d2 as2 h2;cases h;have s1:Sub as1 asF:=(Y2r.mt_sub h2).trans hs;obtain ⟨q1,q2⟩:=Yec hρ a u as d1 as1 h1 hx.1 s1 (d2++rest);obtain ⟨q3,q4⟩:=Yec hρ b v as1 d2 as' h2 hx.2 hs rest;simp only[Pat.fill,AV.ren,la9,q1,q2,q3,q4,hf,and_self]
   ·cases h
  ·cases h
 | .nilf,.nilf,as,ds,as',h,_,_,rest=>by cases h; exact ⟨rfl,rfl⟩
 | .nili,.nili,as,ds,as',h,_,_,rest=>by cases h; exact ⟨rfl,rfl⟩
 | .ifc t a,.ifc t' u,as,ds,as',h,hx,hs,rest=>by
  simp only[Pat.mt] at h;obtain ⟨ht,h⟩:=Y2j h;have ht:t=t':=eb9 ht;obtain ⟨q1,q2⟩:=Yec hρ a u as ds as' h hx hs rest;simp only[Pat.fill,AV.ren,q1,q2,ht,and_self]
 | .nil,.nil,as,ds,as',h,_,_,rest=>by cases h; exact ⟨rfl,rfl⟩
 | .cons a b,.cons u v,as,ds,as',h,hx,hs,rest=>by
  simp only[Pat.exact,ba9] at hx;simp only[Pat.mt] at h;split at h
  ·rename_i d1 as1 h1;split at h
   ·rename_i d2 as2 h2;cases h;have s1:Sub as1 asF:=(Y2r.mt_sub h2).trans hs;obtain ⟨q1,q2⟩:=Yec hρ a u as d1 as1 h1 hx.1 s1 (d2++rest);obtain ⟨q3,q4⟩:=Yec hρ b v as1 d2 as' h2 hx.2 hs rest;simp only[Pat.fill,AV.ren,la9,q1,q2,q3,q4,and_self]
   ·cases h
  ·cases h
theorem Y2x (hρ:∀ j τ,alook j asF=some (some τ)->ρ j=τ) {b:BPat} {B:Blk} {as:Asg} {ds:List Dyn} {as':Asg} (h:b.mt m B as=some (ds,as')) (hx:b.exact B=true) (hs:Sub as' asF) (rest:List Dyn) :
  (b.fill (ds++rest)).1.ren ρ=B/\(b.fill (ds++rest)).2=rest:=by
 cases b with
 | var p =>
  cases B <;> first | (cases hx; done) | skip
  rename_i v;simp only[BPat.mt] at h;obtain ⟨_,h⟩:=Y2j h;obtain ⟨q1,q2⟩:=Yec hρ p v as ds as' h hx hs rest;simp only[BPat.fill,Blk.ren,q1,q2,and_self]
 | fm ks p =>
  cases B <;> first | (cases hx; done) | skip
  rename_i ks' v;simp only[BPat.mt] at h;obtain ⟨hk,h⟩:=Y2j h;obtain ⟨q1,q2⟩:=Yec hρ p v as ds as' h hx hs rest;simp only[BPat.fill,Blk.ren,q1,q2,Y2e hk,and_self]
 | mp kt vt =>
  cases B <;> first | (cases hx; done) | skip
  rename_i k' v' l;simp only[BPat.mt] at h;split at h
  ·rename_i ys hy;cases h;obtain ⟨e,he⟩:=Y4v hy;cases e;have he:ys=l:=he;subst he;exact ⟨rfl,rfl⟩
  ·cases h
 | _=>cases B <;> cases hx
def Y2p (m:Mem) (as:Asg):List BPat->Nat->Bool
 | [],_=>true
 | b :: l,j=>(match alook j as with
  | some (some τ)=>b.exact (mget τ m)
  | _=>false) && Y2p m as l (j+1)
theorem Y2t (hρ:∀ j τ,alook j asF=some (some τ)->ρ j=τ):∀ (l:List BPat) (j:Nat) (as:Asg) (ds:List Dyn) (as':Asg),blksMt m l j as=some (ds,as')->Y2p m asF l j=true->Sub as' asF->∀ rest,
  ∀ q ∈ renMem ρ (Y2q l j (ds++rest)).1,q.2=mget q.1 m
 | [],_,_,_,_,_,_,_,_=>fun q hq=>by cases hq
 | b :: l,j,as,ds,as',h,hx,hs,rest=>by
  simp only[Y2p,ba9] at hx;obtain ⟨hx1,hx2⟩:=hx;have hall:=(Y2r (b :: l) j as ds as' h).2;simp only[blksMt] at h;split at h
  ·rename_i τ hτ;have hτF:alook j asF=some (some τ):=hs _ _ (hall _ _ hτ);rw[hτF] at hx1;split at h
   ·rename_i d1 as1 h1;split at h
    ·rename_i d2 as2 h2;cases h;have s1:Sub as1 asF:=fun a o e=>hs _ _ ((Y2r l (j+1) as1 d2 as' h2).2 a o e)
     obtain ⟨q1,q2⟩:=Y2x hρ h1 hx1 s1 (d2++rest);intro q hq;simp only[Y2q,renMem,la9,q2,List.mem_cons] at hq;rcases hq with rfl | hq
     ·show (b.fill (d1++(d2++rest))).1.ren ρ=mget (ρ j) m;rw[q1,hρ j τ hτF]
     ·exact Y2t hρ l (j+1) as1 d2 as' h2 hx2 hs rest q hq
    ·cases h
   ·cases h
  ·rename_i hτ;have hτF:alook j asF=some none:=hs _ _ (hall _ _ hτ);rw[hτF] at hx1; cases hx1
  ·cases h
theorem Ybu (σ:Nat):∀ (l:Mem),(∀ q ∈ l,q.2=mget q.1 m)->mget σ (l++m)=mget σ m
 | [],_=>rfl
 | (τ,B) :: l,h=>by
  rw[List.cons_append,Ybs];split
  ·rename_i e; subst e; exact h (τ,B) (List.mem_cons_self ..)
  ·exact Ybu σ l (fun q hq=>h q (List.mem_cons_of_mem _ hq))
end
theorem Yed {m:Mem}:∀ (p:Pat) (v:AV) (as:Asg) (ds:List Dyn) (as':Asg),p.mt m v as=some (ds,as')->∀ rest,(p.fill (ds++rest)).2=rest
 | .hole t,v,as,ds,as',h,rest=>by simp only[Pat.mt] at h; split at h <;> cases h; rfl
 | .hpv t,v,as,ds,as',h,rest=>by
  cases v <;> first | (cases h; done) | skip
  simp only[Pat.mt] at h; split at h <;> cases h; rfl
 | .pr a b,v,as,ds,as',h,rest=>by
  simp only[Pat.mt] at h;split at h
  ·split at h
   ·rename_i h1;split at h
    ·rename_i h2; cases h;simp only[Pat.fill,la9,Yed a _ _ _ _ h1,Yed b _ _ _ _ h2]
    ·cases h
   ·cases h
  ·cases h
 | .one a,v,as,ds,as',h,rest=>by
  simp only[Pat.mt] at h;split at h
  ·simp only[Pat.fill]; exact Yed a _ _ _ _ h rest
  ·cases h
 | .nl,v,as,ds,as',h,rest=>by cases v <;> cases h; rfl
 | .sl j,v,as,ds,as',h,rest=>by
  cases v <;> first | (cases h; done) | (obtain ⟨e,_⟩:=Ycz h; subst e; rfl)
 | .ptr j p,v,as,ds,as',h,rest=>by
  cases v <;> first | (cases h; done) | skip
  simp only[Pat.mt] at h;obtain ⟨e,_⟩:=Y5q h;simp only[Pat.fill,Yeh _ _ ds e]
 | .va j p n sz,v,as,ds,as',h,rest=>by
  cases v <;> first | (cases h; done) | skip
  simp only[Pat.mt] at h;obtain ⟨e,_⟩:=Y5q (Y2j h).2;simp only[Pat.fill,Yeh _ _ ds e]
 | .nilp,v,as,ds,as',h,rest=>by cases v <;> cases h; rfl
 | .mp j,v,as,ds,as',h,rest=>by
  cases v <;> first | (cases h; done) | (obtain ⟨e,_⟩:=Ycz h; subst e; rfl)
 | .nilm,v,as,ds,as',h,rest=>by cases v <;> cases h; rfl
 | .fn f a b,v,as,ds,as',h,rest=>by
  cases v <;> first | (cases h; done) | skip
  simp only[Pat.mt] at h;have h:=(Y2j h).2;split at h
  ·rename_i h1;split at h
   ·rename_i h2; cases h;simp only[Pat.fill,la9,Yed a _ _ _ _ h1,Yed b _ _ _ _ h2]
   ·cases h
  ·cases h
 | .nilf,v,as,ds,as',h,rest=>by cases v <;> cases h; rfl
 | .nili,v,as,ds,as',h,rest=>by cases v <;> cases h; rfl
 | .yl j,v,as,ds,as',h,rest=>by
  cases v <;> first | (cases h; done) | (obtain ⟨e,_⟩:=Ycz h; subst e; rfl)
 | .ifc t a,v,as,ds,as',h,rest=>by
  cases v <;> first | (cases h; done) | skip
  simp only[Pat.mt] at h;simp only[Pat.fill]; exact Yed a _ _ _ _ (Y2j h).2 rest
 | .nil,v,as,ds,as',h,rest=>by cases v <;> cases h; rfl
 | .cons a b,v,as,ds,as',h,rest=>by
  cases v <;> first | (cases h; done) | skip
  simp only[Pat.mt] at h;split at h
  ·rename_i h1;split at h
   ·rename_i h2; cases h;simp only[Pat.fill,la9,Yed a _ _ _ _ h1,Yed b _ _ _ _ h2]
   ·cases h
  ·cases h
 | .dead,v,as,ds,as',h,rest=>by
  simp only[Pat.mt] at h;have h:=(Y2j h).2;cases h; rfl
theorem Yio {m:Mem} {fr:Fr}:∀ (l:List (Nat × Pat)) (as:Asg) (ds:List Dyn) (as':Asg),Yik m l fr as=some (ds,as')->∀ rest,(Yih l (ds++rest)).2=rest
 | [],as,ds,as',h,rest=>by cases h; rfl
 | (n,p) :: l,as,ds,as',h,rest=>by
  simp only[Yik] at h;split at h
  ·rename_i h1;split at h
   ·rename_i h2; cases h;simp only[Yih,la9,Yed p _ _ _ _ h1,Yio l _ _ _ h2]
   ·cases h
  ·cases h
def roOK (sh ro:Shape) (m:Mem) (as:Asg):Bool:=(Nat.beq ro.pin sh.bl.length && Nat.beq ro.bl.length sh.bl.length) && Y2p m as sh.bl 0
def Spec.shpR (sh ro:Shape) (F:HL sh.ts->Option (HL ro.ts)):Spec where
 run args m N k kp:=bif Nat.beq args.length sh.sl.length then match sh.getA (initFr 0 args) m with
  | some (x,as)=>(F x).bind fun y=>k ((outAV (ro.fr y)).ren (rho ro.pin as N))
    (bif roOK sh ro (frzL (sh.fzs (initFr 0 args) m) m) as then frzL (sh.fzs (initFr 0 args) m) m else renMem (rho ro.pin as N) (ro.mem y)++(dropA as ro.pin (sh.bl.length - ro.pin)++frzL (sh.fzs (initFr 0 args) m) m)) (N+ro.bl.length)
  | none=>none else none
theorem Yhz {sh ro:Shape} {F:HL sh.ts->Option (HL ro.ts)} (hk:∀ x y,F x=some y->ro.mem y=sh.mem x) {args:List AV} {m:Mem} {N:Nat} {x:HL sh.ts} {as:Asg} {y:HL ro.ts} (hg:sh.getA (initFr 0 args) m=some (x,as)) (hF:F x=some y)
  (hr:roOK sh ro (frzL (sh.fzs (initFr 0 args) m) m) as=true) (σ:Nat) :
  mget σ (renMem (rho ro.pin as N) (ro.mem y)++(dropA as ro.pin (sh.bl.length - ro.pin)++frzL (sh.fzs (initFr 0 args) m) m))=mget σ (frzL (sh.fzs (initFr 0 args) m) m):=by
 unfold roOK at hr;simp only[ba9] at hr;obtain ⟨⟨r1,r2⟩,r3⟩:=hr;have r1:ro.pin=sh.bl.length:=eb9 r1;rw[r1,Nat.sub_self,hk x y hF];show mget σ (renMem _ (sh.mem x)++([]++_))=_;rw[List.nil_append];unfold Shape.getA Shape.get1 at hg;generalize frzL (sh.fzs (initFr 0 args) m) m=m1 at *;split at hg
 ·rename_i d1 as1 h1;split at hg
  ·rename_i d2 as2 h2;obtain ⟨hb,hg⟩:=Y2j hg;rw[ba9] at hb;split at hg
   ·rename_i x' hx;cases hg;have hds:=dyn_hl _ _ _ hx;have hbl:=Y2d _ hb.2
    have hρ:∀ j τ,alook j as=some (some τ)->rho sh.bl.length as N j=τ:=fun j τ e=>by
     have hj:j < sh.bl.length:=hbl j _ e;unfold rho;rw[show Nat.blt j sh.bl.length=true by simpa using hj,e]; rfl
    apply Ybu;unfold Shape.mem;rw[hds,Yio _ _ _ _ h1 d2];have:=Y2t hρ sh.bl 0 as1 d2 as h2 r3 (Sub.refl _) [];rw[List.append_nil] at this;exact this
   ·cases hg
  ·cases hg
 ·cases hg
theorem Sound.shpR {P:Program} {f:FuncId} {sh ro:Shape} {F:HL sh.ts->Option (HL ro.ts)} (hk:∀ x y,F x=some y->ro.mem y=sh.mem x) (h:Sound P f (Spec.shp sh ro F)):Sound P f (Spec.shpR sh ro F):=by
 obtain ⟨h1,h2,h3⟩:=h;refine ⟨fun args m N R k kp r hr=>?_,h2,fun {R} args m g k kp r X w vs hr hI hrt ha=>?_⟩
 ·simp only[Spec.shpR] at hr ⊢;obtain ⟨hl,hr⟩:=Y2j hr;split at hr
  ·rename_i x as hg;cases hF:F x with
   | none=>rw[hF] at hr; cases hr
   | some y =>
    obtain ⟨δ,hδ⟩:=Y7p (sh.fzs (initFr 0 args) m) m;cases hc:roOK sh ro (frzL (sh.fzs (initFr 0 args) m) m) as with
    | true=>exact .inl ⟨(outAV (ro.fr y)).ren (rho ro.pin as N),δ,N+ro.bl.length,fun k' kp'=>by simp only[hl,hg,hF,hc,cond_true,Option.bind_some]; rw[hδ]⟩
    | false=>exact .inl ⟨(outAV (ro.fr y)).ren (rho ro.pin as N),renMem (rho ro.pin as N) (ro.mem y)++(dropA as ro.pin (sh.bl.length - ro.pin)++δ),N+ro.bl.length,fun k' kp'=>by simp only[hl,hg,hF,hc,cond_true,cond_false,Option.bind_some]; rw[hδ,la9,la9]⟩
  ·cases hr
 ·simp only[Spec.shpR] at hr;obtain ⟨hl,hr⟩:=Y2j hr;split at hr
  ·rename_i x as hg;cases hF:F x with
   | none=>rw[hF] at hr; cases hr
   | some y =>
    rw[hF,Option.bind_some] at hr
    have h0:(Spec.shp sh ro F).run args m g.n (fun v m N=>some (v,m,N)) (fun _ _ _=>none)=some ((outAV (ro.fr y)).ren (rho ro.pin as g.n),renMem (rho ro.pin as g.n) (ro.mem y)++(dropA as ro.pin (sh.bl.length - ro.pin)++frzL (sh.fzs (initFr 0 args) m) m),g.n+ro.bl.length):=by
     simp only[Spec.shp,hl,hg,hF,cond_true,Option.bind_some]
    refine (h3 args m g _ _ _ X w vs h0 hI hrt ha).mono ?_;rintro e w' (⟨v,m',g',cv,q1,q2,q3,q4,q5⟩ | ⟨v,m',g',cv,q1,q2,q3,q4,q5⟩)
    ·have q2:=oi9 q2;have e1:v=_:=congrArg (fun p=>p.1) q2;have e2:m'=_:=congrArg (fun p=>p.2.1) q2;have e3:g'.n=_:=congrArg (fun p=>p.2.2) q2;simp only at e1 e2 e3;cases hc:roOK sh ro (frzL (sh.fzs (initFr 0 args) m) m) as with
     | true =>
      rw[hc,cond_true] at hr;have hm:∀ τ,mget τ (frzL (sh.fzs (initFr 0 args) m) m)=mget τ m':=fun τ=>by rw[e2]; exact (Yhz hk hg hF hc τ).symm
      exact .inl ⟨v,_,g',cv,q1,by rw[e1,e3]; exact hr,q3.eqm hm,by rw[okB.eqm hm]; exact q4,q5.eqm hm⟩
     | false =>
      rw[hc,cond_false] at hr;exact .inl ⟨v,m',g',cv,q1,by rw[e1,e2,e3]; exact hr,q3,q4,q5⟩
    ·cases q2
  ·cases hr
end Go.Proofs.YtifbgkikkiallaaGreat.VX

