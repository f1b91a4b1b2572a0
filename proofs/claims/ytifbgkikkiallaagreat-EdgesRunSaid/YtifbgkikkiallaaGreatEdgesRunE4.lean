import Derived.Test.YtifbgkikkiallaaGreatEdgesRunE3
import Derived.Laws.Strings
set_option linter.unusedVariables false
set_option linter.unusedSimpArgs false
namespace Go.Proofs.YtifbgkikkiallaaGreat.VX
section
variable {P:Program} {X:Nat->Prop} {R:Type} {o:Oper} {a:Act} {w:World} {g:G} {m:Mem} {k kp:AV->Mem->Nat->Option R} {r:R} {fr:Fr}
theorem kno_eq {x y:IntKind} (h:Nat.beq (kno x) (kno y)=true):x=y:=Y9t h
theorem Y99 {t t':TypeId} {x y:Operand} {op:BinOp} (ho:o.op=.binOp op t x y t') (hI:Inv g X m w) {kx ky:IntKind} {p q:Int}
  (hx:RV g w (okB X g m) (.d (.int kx) p) (a.eval x)) (hy:RV g w (okB X g m) (.d (.int ky) q) (a.eval y)) (h:intBin kx ky p q op (fun v=>k v m g.n)=some r):OpR P X o a w g m k kp r:=by
 have ex:=Y9b hx;have ey:=Y9b hy
 have hg:∀ z,(eqGuard op t x y (.int kx p) (.int ky z)).run P w=.ok () w:=by
  intro z; unfold eqGuard; cases op <;> simp
 have fin:∀ v cv,k v m g.n=some r->(binOp op t (.int kx p) (.int ky q)).run P w=.ok cv w->RV g w (okB X g m) v cv->OpR P X o a w g m k kp r:=by
  intro v cv hk hr hv;refine OpR.value ?_ hk hI hv (Ext.refl _ _ _);unfold execOp;simp[ho,ex,ey,hg,hr]
 cases op with
 | shl =>
  simp only[intBin] at h;obtain ⟨h1,h2⟩:=Yft h;refine fin _ _ h2 ?_ (int_mk _ _);have:¬ q < 0:=by simpa using h1
  simp[binOp,Op.shift,this,shlI]
 | shr =>
  simp only[intBin] at h;obtain ⟨h1,h2⟩:=Yft h;refine fin _ _ h2 ?_ (int_mk _ _);have:¬ q < 0:=by simpa using h1
  simp[binOp,Op.shift,this,shrI]
 | quo =>
  simp only[intBin] at h;obtain ⟨h0,h'⟩:=Y2j h;obtain ⟨h1,h2⟩:=Yft h';obtain rfl:=kno_eq h0;refine fin _ _ h2 ?_ (int_mk _ _);have:q ≠ 0:=by simpa using h1
  simp[binOp,Op.intDiv,this]
 | rem =>
  simp only[intBin] at h;obtain ⟨h0,h'⟩:=Y2j h;obtain ⟨h1,h2⟩:=Yft h';obtain rfl:=kno_eq h0;refine fin _ _ h2 ?_ (int_mk _ _);have:q ≠ 0:=by simpa using h1
  simp[binOp,Op.intDiv,this]
 | add | sub | mul =>
  simp only[intBin] at h;obtain ⟨h0,h'⟩:=Y2j h;obtain rfl:=kno_eq h0;refine fin _ _ h' ?_ (int_mk _ _);simp[binOp,Op.intArith]
 | and | or | xor | andNot =>
  simp only[intBin] at h;obtain ⟨h0,h'⟩:=Y2j h;obtain rfl:=kno_eq h0;refine fin _ _ h' ?_ (int_mk _ _);simp[binOp,Op.intBits,intBits]
 | eql | neq | lss | leq | gtr | geq =>
  simp only[intBin] at h;obtain ⟨h0,h'⟩:=Y2j h;obtain rfl:=kno_eq h0;refine fin _ _ h' ?_ (Y2w _);simp[binOp,Op.intCmp]
theorem Yji {ok:Nat->Prop} {s:List UInt8} {cv:Value} (h:RV g w ok (.d .str s) cv):∃ ba:ByteArray,cv=.string ba/\ba.data.toList=s:=by
 obtain ⟨ba,h1,h2⟩:=h.2 rfl;exact ⟨ba,(List.cons.inj h1).1,h2⟩
theorem str_mk {ok:Nat->Prop} {s:List UInt8} {ba:ByteArray} (h:ba.data.toList=s):RV g w ok (.d .str s) (.string ba):=⟨fun h=>(by cases h),fun _=>⟨ba,rfl,h⟩⟩
theorem Yi3 (ba:ByteArray):ba.size=ba.data.toList.length:=by show ba.data.size=_; simp
theorem Yjg {t t':TypeId} {x y:Operand} {op:BinOp} (ho:o.op=.binOp op t x y t') (hI:Inv g X m w) {p q:List UInt8}
  (hx:RV g w (okB X g m) (.d .str p) (a.eval x)) (hy:RV g w (okB X g m) (.d .str q) (a.eval y)) (h:strBin p q op (fun v=>k v m g.n)=some r):OpR P X o a w g m k kp r:=by
 obtain ⟨bx,ex,dx⟩:=Yji hx;obtain ⟨bz,ey,dy⟩:=Yji hy
 have hg:(eqGuard op t x y (.string bx) (.string bz)).run P w=.ok () w:=by
  unfold eqGuard; cases op <;> simp
 have fin:∀ v cv,k v m g.n=some r->(binOp op t (.string bx) (.string bz)).run P w=.ok cv w->RV g w (okB X g m) v cv->OpR P X o a w g m k kp r:=by
  intro v cv hk hr hv;refine OpR.value ?_ hk hI hv (Ext.refl _ _ _);unfold execOp;simp[ho,ex,ey,hg,hr]
 cases op with
 | eql =>
  simp only[strBin] at h;refine fin _ _ h ?_ (Y2w _);simp[binOp,Op.stringOp,ByteArray.toList_eq,dx,dy]
 | neq =>
  simp only[strBin] at h;refine fin _ _ h ?_ (Y2w _);simp[binOp,Op.stringOp,ByteArray.toList_eq,dx,dy]
 | add =>
  simp only[strBin] at h;obtain ⟨h1,h2⟩:=Yft h;have hle:=Nat.le_of_ble_eq_true h1;refine fin _ (.string (bx++bz)) h2 ?_ (str_mk (by simp[ByteArray.data_append,dx,dy]))
  have hn:¬ ((bx.size+bz.size:Nat):Int) > IntKind.i64.max:=by
   rw[Yi3,Yi3,dx,dy];have:IntKind.i64.max=9223372036854775807:=by decide
   rw[this]; omega
  simp only[binOp,Op.stringOp];rw[if_neg hn]; rfl
 | _=>cases h
theorem Y58 {ok:Nat->Prop} (hf:∀ τ,BOK g w ok τ (mget τ m)) {v:AV} {t:Ty} {x:t.T} {cv:Value} (h:v.data m t=some x) (hs:v.isAgg=t.isAgg) (hv:RV g w ok v cv):RV g w ok (.d t x) cv :=
 ⟨fun e=>let ⟨ds,e1,e2⟩:=hv.1 (hs.trans e); ⟨ds,e1,Y56 hf v t x h ds e2⟩,fun e=>Y56 hf v t x h _ (hv.2 (hs.trans e))⟩
theorem data_d {t t':Ty} {y:t'.T}:AV.data m (.d t' y) t=Ty.conv t' t y:=by cases t <;> rfl
theorem Y53 {v:AV} {t:Ty} {x:t.T} (h:v.data m t=some x):v.isAgg=t.isAgg:=by
 cases v with
 | d t' y=>rw[data_d] at h; obtain ⟨e,_⟩:=Y4v h; subst e; rfl
 | pr u v=>cases t <;> first | rfl | cases h
 | one u=>cases t <;> first | rfl | cases h
 | nl=>cases t <;> first | rfl | cases h
 | sl τ=>cases t <;> first | rfl | cases h
 | vw τ lo n sz=>cases t <;> first | rfl | cases h
 | _=>cases t <;> cases h
theorem Y43 {ok:Nat->Prop} {t:Ty} (hc:t.cmpk=true) {x:t.T} {cv:Value} (h:RV g w ok (.d t x) cv):(∃ b,cv=.bool b) \/ ∃ cs,cv=.agg cs:=by
 cases t with
 | bool=>exact .inl ⟨x,Y2v h⟩
 | pair a b=>obtain ⟨ds,e,_⟩:=h.1 rfl; exact .inr ⟨_,e⟩
 | one a=>obtain ⟨ds,e,_⟩:=h.1 rfl; exact .inr ⟨_,e⟩
 | arr n a=>obtain ⟨ds,e,_⟩:=h.1 rfl; exact .inr ⟨_,e⟩
 | _=>cases hc
theorem Y68 {t t':TypeId} {i:TI} (hi:TIok P t i) {x y:Operand} {op:BinOp} (ho:o.op=.binOp op t x y t') (hI:Inv g X m w) {u v:AV}
  (hx:RV g w (okB X g m) u (a.eval x)) (hy:RV g w (okB X g m) v (a.eval y)) (hk:i.eqk=true) (hck:i.ty.cmpk=true) {p q:i.ty.T} (hp:u.data m i.ty=some p) (hq:v.data m i.ty=some q)
  (h:eqSel op (i.ty.beq p q) (fun v=>k v m g.n)=some r):OpR P X o a w g m k kp r:=by
 obtain ⟨h1,h2⟩:=hi.eq hk;have rx:=Y58 (fun τ=>hI.ok τ) hp (Y53 hp) hx;have ry:=Y58 (fun τ=>hI.ok τ) hq (Y53 hq) hy;have h3:=h2 g w (okB X g m) p q _ _ rx ry
 have hg:(eqGuard op t x y (a.eval x) (a.eval y)).run P w=.ok () w:=by
  rcases Y43 hck rx with ⟨b,e⟩ | ⟨cs,e⟩ <;> rcases Y43 hck ry with ⟨b',e'⟩ | ⟨cs',e'⟩ <;> rw[e,e'] <;> unfold eqGuard <;> cases op <;> simp[h1]
 have hb:∀ (f:Bool->Bool),(op=.eql/\f=id) \/ (op=.neq/\f=not)->(binOp op t (a.eval x) (a.eval y)).run P w=.ok (.bool (f (i.ty.beq p q))) w:=by
  rintro f (⟨rfl,rfl⟩ | ⟨rfl,rfl⟩) <;> rcases Y43 hck rx with ⟨b,e⟩ | ⟨cs,e⟩ <;> rcases Y43 hck ry with ⟨b',e'⟩ | ⟨cs',e'⟩ <;> rw[e,e'] at h3 ⊢ <;> simp[binOp,h3]
 cases op with
 | eql =>
  refine OpR.value ?_ h hI (Y2w _) (Ext.refl _ _ _);unfold execOp;simp[ho,hg,hb id (.inl ⟨rfl,rfl⟩)]
 | neq =>
  refine OpR.value ?_ h hI (Y2w _) (Ext.refl _ _ _);unfold execOp;simp[ho,hg,hb not (.inr ⟨rfl,rfl⟩)]
 | _=>cases h
theorem not_ok {t:TypeId} {x:Operand} (ho:o.op=.unOp .not t x) (hI:Inv g X m w) {b:Bool} (hx:RV g w (okB X g m) (.d .bool b) (a.eval x)) (h:k (.d .bool (!b)) m g.n=some r):OpR P X o a w g m k kp r:=by
 refine OpR.value ?_ h hI (Y2w _) (Ext.refl _ _ _);unfold execOp;simp[ho,Y2v hx,Op.unary]
theorem nth_ok {ok:Nat->Prop}:∀ (vs:AV) (l:List Value) (i:Nat),RL g w ok vs l->(nthAV vs i=.dead->i < l.length)->∃ cv,l[i]?=some cv/\RV g w ok (nthAV vs i) cv
 | .nil,l,i,h,hd=>by cases h; exact absurd (hd rfl) (Nat.not_lt_zero _)
 | .cons v vs,l,0,⟨cv,l',e,h1,h2⟩,hd=>by subst e; exact ⟨cv,rfl,h1⟩
 | .cons v vs,l,i+1,⟨cv,l',e,h1,h2⟩,hd=>by
  subst e;exact nth_ok vs l' i h2 (fun h=>by have:=hd h; simpa using this)
 | .d _ _,_,_,h,_=>h.elim
 | .pr _ _,_,_,h,_=>h.elim
 | .one _,_,_,h,_=>h.elim
 | .nl,_,_,h,_=>h.elim
 | .sl _,_,_,h,_=>h.elim
 | .vw _ _ _ _,_,_,h,_=>h.elim
 | .ptr _ _,_,_,h,_=>h.elim
 | .va _ _ _ _,_,_,h,_=>h.elim
 | .nilp,_,_,h,_=>h.elim
 | .pv _ _,_,_,h,_=>h.elim
 | .mp _,_,_,h,_=>h.elim
 | .nilm,_,_,h,_=>h.elim
 | .fn _ _ _,_,_,h,_=>h.elim
 | .nilf,_,_,h,_=>h.elim
 | .ifc _ _,_,_,h,_=>h.elim
 | .nili,_,_,h,_=>h.elim
 | .tu _,_,_,h,_=>h.elim
 | .dead,_,_,h,_=>h.elim
theorem Yk {ok:Nat->Prop}:∀ (vs:AV) (l:List Value),RL g w ok vs l->l.length=lenAV vs
 | .nil,l,h=>by cases h; rfl
 | .cons v vs,l,⟨cv,l',e,h1,h2⟩=>by subst e; simp[lenAV,Yk vs l' h2]
 | .d _ _,_,h=>h.elim
 | .pr _ _,_,h=>h.elim
 | .one _,_,h=>h.elim
 | .nl,_,h=>h.elim
 | .sl _,_,h=>h.elim
 | .vw _ _ _ _,_,h=>h.elim
 | .ptr _ _,_,h=>h.elim
 | .va _ _ _ _,_,h=>h.elim
 | .nilp,_,h=>h.elim
 | .pv _ _,_,h=>h.elim
 | .mp _,_,h=>h.elim
 | .nilm,_,h=>h.elim
 | .fn _ _ _,_,h=>h.elim
 | .nilf,_,h=>h.elim
 | .ifc _ _,_,h=>h.elim
 | .nili,_,h=>h.elim
 | .tu _,_,h=>h.elim
 | .dead,_,h=>h.elim
theorem Y6h {t:Operand} {i:Nat} (ho:o.op=.extract t i) (hI:Inv g X m w) {vs:AV} (hx:RV g w (okB X g m) (.tu vs) (a.eval t)) (hlt:Nat.blt i (lenAV vs)=true) (h:k (nthAV vs i) m g.n=some r):OpR P X o a w g m k kp r:=by
 obtain ⟨l,h1,h2⟩:=hx.2 rfl;have e:=(List.cons.inj h2).1;have hl:=Yk vs l h1;obtain ⟨cv,h3,h4⟩:=nth_ok vs l i h1 (fun _=>by rw[hl]; simpa using hlt);refine OpR.value ?_ h hI h4 (Ext.refl _ _ _);unfold execOp;simp[ho,e,Instr.extract,h3]
theorem RL_map {ok:Nat->Prop} {tmps:Array Value} {a:Act} (hf:FrOK g w ok fr a.tmps):∀ (l:List Operand),RL g w ok (avList (l.map (ev fr))) (l.map a.eval)
 | []=>rfl
 | x :: l=>⟨a.eval x,l.map a.eval,rfl,ev_ok hf x,RL_map (tmps:=tmps) hf l⟩
theorem Yb6 {f:FuncId} {first cap:Array Operand} (ho:o.op=.makeFunc (.func f) first cap) (hI:Inv g X m w) (hf:FrOK g w (okB X g m) fr a.tmps)
  (h:k (.fn f (avList (first.toList.map (ev fr))) (avList (cap.toList.map (ev fr)))) m g.n=some r):OpR P X o a w g m k kp r:=by
 refine OpR.value (cv:=.func (.func f) (first.map a.eval) (cap.map a.eval)) ?_ h hI (RV_one rfl ⟨_,_,RL_map (tmps:=#[]) hf _,RL_map (tmps:=#[]) hf _,by simp[<- Array.toList_map]⟩) (Ext.refl _ _ _);unfold execOp;simp[ho,Instr.makeFunc]
theorem Y4w {s t:TypeId} {i:TI} {x:Operand} (ho:o.op=.convert s t x) (hi:TIok P t i) (hsrc:∃ d,P.underlying s=some d) (hI:Inv g X m w) {kk kd:IntKind} {n:Int} (hx:RV g w (okB X g m) (.d (.int kk) n) (a.eval x))
  (hty:i.ty=.int kd) (hk:i.kind=8) (h:k (.d (.int kd) (kd.wrap n)) m g.n=some r):OpR P X o a w g m k kp r:=by
 obtain ⟨d,hd⟩:=hsrc;refine OpR.value ?_ h hI (int_mk _ _) (Ext.refl _ _ _);unfold execOp;simp[ho,Y9b hx,convert,run_underlying hd,run_underlying (hi.num kd hk hty),Conv.intToInt]
end
end Go.Proofs.YtifbgkikkiallaaGreat.VX

