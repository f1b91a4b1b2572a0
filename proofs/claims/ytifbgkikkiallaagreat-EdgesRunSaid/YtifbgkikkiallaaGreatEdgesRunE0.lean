import Derived.Calls
import Derived.KernelRfl
set_option linter.unusedVariables false
set_option linter.unusedSimpArgs false
namespace Go.Proofs.YtifbgkikkiallaaGreat.VX
theorem eb9 {n m:Nat}:n.beq m=true->n=m:=Nat.eq_of_beq_eq_true
theorem ba9 (a b:Bool):((a&&b)=true)=(a=true/\b=true):=Bool.and_eq_true a b
theorem la9 {α:Type _} (a b c:List α):a++b++c=a++(b++c):=List.append_assoc a b c
theorem ln9 {α:Type _} {a b:List α}:(a++b).length=a.length+b.length:=List.length_append
theorem oi9 {α:Type _} {a b:α}:some a=some b->a=b:=Option.some.inj
inductive Ty where
 | int (k:IntKind)
 | bool
 | str
 | pair (a b:Ty)
 | one (a:Ty)
 | slice (t:Ty)
 | arr (n:Nat) (t:Ty)
 deriving Inhabited
def Ty.T:Ty->Type
 | .int _=>Int
 | .bool=>Bool
 | .str=>List UInt8
 | .pair a b=>a.T × b.T
 | .one a=>a.T
 | .slice t=>List t.T
 | .arr _ t=>List t.T
def Ty.size:Ty->Nat
 | .pair a b=>a.size+b.size
 | .one a=>a.size
 | .arr n t=>n * t.size
 | _=>1
def Ty.isAgg:Ty->Bool
 | .pair _ _ | .one _ | .arr _ _=>true
 | _=>false
def Ty.hasSlice:Ty->Bool
 | .pair a b=>a.hasSlice || b.hasSlice
 | .one a=>a.hasSlice
 | .arr _ t=>t.hasSlice
 | .slice _=>true
 | _=>false
def Ty.zero:(t:Ty)->t.T
 | .int _=>(0:Int)
 | .bool=>false
 | .str=>([]:List UInt8)
 | .pair a b=>(a.zero,b.zero)
 | .one a=>a.zero
 | .slice _=>[]
 | .arr n t=>List.replicate n t.zero
def kno:IntKind->Nat
 | .i8=>0 | .i16=>1 | .i32=>2 | .i64=>3 | .u8=>4 | .u16=>5 | .u32=>6 | .u64=>7
theorem Y9t {a b:IntKind} (h:Nat.beq (kno a) (kno b)=true):a=b:=by
 cases a <;> cases b <;> first | rfl | exact absurd h (by decide)
def Ty.same:(a b:Ty)->Option (PLift (a=b))
 | .int k,.int k'=>if h:Nat.beq (kno k) (kno k')=true then some ⟨Y9t h ▸ rfl⟩ else none
 | .bool,.bool=>some ⟨rfl⟩
 | .str,.str=>some ⟨rfl⟩
 | .pair a b,.pair c d=>match Ty.same a c,Ty.same b d with
  | some ⟨h⟩,some ⟨h'⟩=>some ⟨h ▸ h' ▸ rfl⟩
  | _,_=>none
 | .one a,.one b=>match Ty.same a b with
  | some ⟨h⟩=>some ⟨h ▸ rfl⟩
  | none=>none
 | .slice a,.slice b=>match Ty.same a b with
  | some ⟨h⟩=>some ⟨h ▸ rfl⟩
  | none=>none
 | .arr n a,.arr m b=>if h:Nat.beq n m=true then match Ty.same a b with
  | some ⟨h'⟩=>some ⟨Nat.eq_of_beq_eq_true h ▸ h' ▸ rfl⟩
  | none=>none else none
 | _,_=>none
def Ty.castTo {a b:Ty} (h:a=b) (x:a.T):b.T:=Eq.rec (motive:=fun b _=>b.T) x h
def Ty.conv (a b:Ty) (x:a.T):Option b.T:=match Ty.same a b with
 | some ⟨h⟩=>some (Ty.castTo h x)
 | none=>none
def Ty.beqL {α:Type} (f:α->α->Bool):List α->List α->Bool
 | [],[]=>true
 | a :: l,b :: m=>f a b && Ty.beqL f l m
 | _,_=>false
def Ty.cmpk:Ty->Bool
 | .bool | .pair _ _ | .one _ | .arr _ _=>true
 | _=>false
def Ty.beq:(t:Ty)->t.T->t.T->Bool
 | .int _=>fun (a b:Int)=>a == b
 | .bool=>fun (a b:Bool)=>a == b
 | .str=>fun (a b:List UInt8)=>a == b
 | .pair s t=>fun a b=>s.beq a.1 b.1 && t.beq a.2 b.2
 | .one s=>s.beq
 | .slice _=>fun _ _=>false
 | .arr _ t=>Ty.beqL t.beq
inductive Sel where
 | fld (k:Nat) (last:Bool) (off:Nat)
 | inn
 | idx (i sz n:Nat)
 | row (i sz:Nat)
 deriving Inhabited
abbrev Path:=List Sel
inductive AV where
 | d (t:Ty) (x:t.T)
 | pr (a b:AV)
 | one (a:AV)
 | nl
 | sl (τ:Nat)
 | vw (τ lo n sz:Nat)
 | va (τ:Nat) (p:Path) (n sz:Nat)
 | ptr (τ:Nat) (p:Path)
 | nilp
 | pv (t:Ty) (x:t.T)
 | mp (τ:Nat)
 | nilm
 | fn (f:FuncId) (first cap:AV)
 | nilf
 | ifc (t:TypeId) (v:AV)
 | yl (τ:Nat)
 | nili
 | tu (vs:AV)
 | nil
 | cons (a b:AV)
 | dead
 deriving Inhabited
inductive Blk where
 | var (v:AV)
 | row (t:Ty) (xs:List t.T)
 | frz (t:Ty) (xs:List t.T)
 | mp (kt vt:Ty) (m:List (kt.T × vt.T))
 | lp (id:Nat) (slots:List Nat) (sv:AV) (tag:Int)
 | fm (ks:List Int) (vs:AV)
 | mo (kt t:Ty) (l:List (kt.T × List t.T)) (h:Option (Nat × Nat))
 | gone
 deriving Inhabited
abbrev Fr:=List (Nat × AV)
abbrev Mem:=List (Nat × Blk)
def fget (n:Nat):Fr->AV
 | []=>.dead
 | (m,v) :: l=>bif Nat.beq m n then v else fget n l
def mget (n:Nat):Mem->Blk
 | []=>.gone
 | (m,v) :: l=>bif Nat.beq m n then v else mget n l
def evc:Value->AV
 | .int k n=>.d (.int k) n
 | .bool b=>.d .bool b
 | .string s=>.d .str s.data.toList
 | .slice none 0 0=>.nl
 | .pointer none=>.nilp
 | .map none=>.nilm
 | .nilFunc=>.nilf
 | .nilIface=>.nili
 | _=>.dead
def ev (fr:Fr):Operand->AV
 | .tmp t=>fget t fr
 | .const v=>evc v
 | .func f=>.fn f .nil .nil
 | .global _=>.dead
def AV.size:AV->Nat
 | .d t _=>t.size
 | .pr a b=>a.size+b.size
 | .one a=>a.size
 | _=>1
def AV.isAgg:AV->Bool
 | .d t _=>t.isAgg
 | .pr _ _ | .one _=>true
 | _=>false
def AV.mk2:AV->AV->AV
 | .d a x,.d b y=>.d (.pair a b) (x,y)
 | a,b=>.pr a b
def AV.mk1:AV->AV
 | .d a x=>.d (.one a) x
 | a=>.one a
def AV.split:AV->Option (AV × AV)
 | .d (.pair a b) x=>some (.d a x.1,.d b x.2)
 | .pr a b=>some (a,b)
 | _=>none
def AV.comp (v:AV):Nat->Bool->Nat->Option (Nat × AV)
 | 0,true,o=>some (o,v)
 | 0,false,o=>match v.split with
  | some (a,_)=>some (o,a)
  | none=>none
 | k+1,l,o=>match v.split with
  | some (a,b)=>b.comp k l (o+a.size)
  | none=>none
def AV.put (v:AV) (x:AV):Nat->Bool->Option AV
 | 0,true=>some x
 | 0,false=>match v.split with
  | some (_,b)=>some (AV.mk2 x b)
  | none=>none
 | k+1,l=>match v.split with
  | some (a,b)=>match b.put x k l with
   | some b'=>some (AV.mk2 a b')
   | none=>none
  | none=>none
def getAt {α:Type} (z:α):List α->Nat->α
 | [],_=>z
 | a :: _,0=>a
 | _ :: l,n+1=>getAt z l n
def AV.sel (v:AV):Sel->Option AV
 | .fld k l off=>match v.comp k l 0 with
  | some (o,a)=>bif Nat.beq o off then some a else none
  | none=>none
 | .inn=>match v with
  | .d (.one a) x=>some (.d a x)
  | .one a=>some a
  | _=>none
 | .idx i sz n=>match v with
  | .d (.arr m t) xs=>bif Nat.beq n m && Nat.beq sz t.size then some (.d t (getAt t.zero xs i)) else none
  | _=>none
 | .row _ _=>none
def AV.get (v:AV):Path->Option AV
 | []=>some v
 | s :: p=>match v.sel s with
  | some a=>a.get p
  | none=>none
def cut {α:Type} (l:List α) (lo n:Nat):List α:=(l.drop lo).take n
def AV.data (m:Mem):AV->(t:Ty)->Option t.T
 | .d t' x,t=>Ty.conv t' t x
 | .pr u v,.pair a b=>match AV.data m u a,AV.data m v b with
  | some x,some y=>some (x,y)
  | _,_=>none
 | .one u,.one a=>AV.data m u a
 | .nl,.slice t=>some []
 | .sl τ,.slice t=>match mget τ m with
  | .frz t' xs=>Ty.conv (.slice t') (.slice t) xs
  | _=>none
 | .vw τ lo n sz,.slice t=>match mget τ m with
  | .frz t' xs=>bif Nat.beq sz t'.size then Ty.conv (.slice t') (.slice t) (cut xs lo n) else none
  | _=>none
 | _,_=>none
def AV.toks:AV->List Nat
 | .sl τ=>[τ]
 | .vw τ _ _ _=>[τ]
 | .pr a b=>a.toks++b.toks
 | .one a=>a.toks
 | _=>[]
def frz1 (τ:Nat) (m:Mem):Mem:=match mget τ m with
 | .row t xs=>(τ,.frz t xs) :: m
 | _=>m
def frzL:List Nat->Mem->Mem
 | [],m=>m
 | τ :: l,m=>frzL l (frz1 τ m)
def AV.set (m:Mem) (v x:AV):Path->Option AV
 | []=>bif Nat.beq x.size v.size then some x else none
 | .fld k l off :: p=>match v.sel (.fld k l off) with
  | some a=>match a.set m x p with
   | some a'=>v.put a' k l
   | none=>none
  | none=>none
 | .inn :: p=>match v.sel .inn with
  | some a=>match a.set m x p with
   | some a'=>some (AV.mk1 a')
   | none=>none
  | none=>none
 | .idx i sz n :: p=>match v with
  | .d (.arr k t) xs=>bif Nat.beq n k && Nat.beq sz t.size then
    match (AV.d t (getAt t.zero xs i)).set m x p with
    | some a'=>match a'.data m t with
     | some y=>some (.d (.arr k t) (xs.set i y))
     | none=>none
    | none=>none
   else none
  | _=>none
 | .row _ _ :: _=>none
def AV.sto:AV->Bool
 | .tu _ | .nil | .cons _ _ | .dead=>false
 | .pr a b=>a.sto && b.sto
 | .one a=>a.sto
 | _=>true
def HL:List Ty->Type
 | []=>Unit
 | [t]=>t.T
 | t :: u :: l=>t.T × HL (u :: l)
def toHL (m:Mem):(ts:List Ty)->List AV->Option (HL ts)
 | [],[]=>some ()
 | [t],[v]=>v.data m t
 | t :: u :: l,v :: vs=>match v.data m t,toHL m (u :: l) vs with
  | some x,some y=>some (x,y)
  | _,_=>none
 | _,_=>none
def ofHL:(ts:List Ty)->HL ts->List AV
 | [],_=>[]
 | [t],x=>[.d t x]
 | t :: u :: l,x=>.d t x.1 :: ofHL (u :: l) x.2
def hasSl:List Ty->Bool
 | []=>false
 | t :: l=>t.hasSlice || hasSl l
def toksL:List AV->List Nat
 | []=>[]
 | v :: l=>v.toks++toksL l
structure TI where
 agg:Bool:=false
 size:Nat:=1
 alen:Nat:=0
 esz:Nat:=1
 bytes:Nat:=8
 ety:Ty:=.bool
 kty:Ty:=.bool
 zero:AV:=.dead
 flds:List Sel:=[]
 fsz:List Nat:=[]
 fag:List Bool:=[]
 kind:Nat:=0
 eqk:Bool:=false
 mky:Bool:=false
 fmk:Bool:=false
 mok:Bool:=false
 notI:Bool:=false
 ty:Ty:=.bool
 deriving Inhabited
structure Spec where
 run:{R:Type}->(args:List AV)->Mem->Nat->(AV->Mem->Nat->Option R)->(AV->Mem->Nat->Option R)->Option R
def avList:List AV->AV
 | []=>.nil
 | a :: l=>.cons a (avList l)
def resAV (rs:List Ty) (x:HL rs):AV:=match rs,x with
 | [t],x=>.d t x
 | rs,x=>.tu (avList (ofHL rs x))
def Spec.pure (ts rs:List Ty) (F:HL ts->Option (HL rs)):Spec where
 run args m N k kp:=match toHL (frzL (toksL args) m) ts args with
  | some x=>(F x).bind fun r=>bif hasSl rs then k (resAV rs r) (frzL (toksL args) m) N else k (resAV rs r) m N
  | none=>none
inductive Ex where
 | normal
 | exit (id:Nat)
 | goto (l:Nat)
 | ret
 | panic (v:AV)
structure CSpec where
 run:{R:Type}->Fr->Mem->Nat->(Ex->Fr->Mem->Nat->Option R)->Option R
structure Ctx where
 tb:List (Nat × TI)
 fx:List (FuncId × List FuncId × Spec)
 sum:List (Nat × Nat × CSpec)
 nt:Nat
 hz:List (Nat × List Nat):=[]
 rw:List (Nat × List Nat):=[]
 mks:List (Nat × List Nat):=[]
 pin:Nat:=0
 nr:Bool:=true
 miss:{R:Type}->FuncId->List FuncId->List AV->Mem->Nat->(AV->Mem->Nat->Option R)->(AV->Mem->Nat->Option R)->Option R:=fun _ _ _ _ _ _ _=>none
 ys:List (Nat × List Nat × Spec):=[]
def tget (n:Nat):List (Nat × TI)->Option TI
 | []=>none
 | (m,v) :: l=>bif Nat.beq m n then some v else tget n l
def beqNs:List Nat->List Nat->Bool
 | [],[]=>true
 | a :: l,b :: m=>Nat.beq a b && beqNs l m
 | _,_=>false
def fxget (f:FuncId) (cl:List FuncId):List (FuncId × List FuncId × Spec)->Option Spec
 | []=>none
 | (g,cl',s) :: l=>bif Nat.beq f g && beqNs cl cl' then some s else fxget f cl l
def AV.clos:AV->List FuncId
 | .fn f a b=>f :: (a.clos++b.clos)
 | .cons a b=>a.clos++b.clos
 | .pr a b=>a.clos++b.clos
 | .one a=>a.clos
 | .sl _=>[2000000]
 | _=>[]
def closOf:List AV->List FuncId
 | []=>[]
 | v :: l=>v.clos++closOf l
def mIdx {κ α:Type} (eq:κ->κ->Bool) (x:κ):List (κ × α)->Nat->Option Nat
 | [],_=>none
 | p :: l,i=>bif eq x p.1 then some i else mIdx eq x l (i+1)
def mlook {κ α:Type} (eq:κ->κ->Bool) (z:α) (x:κ):List (κ × α)->α
 | []=>z
 | p :: l=>bif eq x p.1 then p.2 else mlook eq z x l
def mhas {κ α:Type} (eq:κ->κ->Bool) (x:κ):List (κ × α)->Bool
 | []=>false
 | p :: l=>bif eq x p.1 then true else mhas eq x l
def mpos {κ α:Type} (eq:κ->κ->Bool) (x:κ):List (κ × α)->Nat
 | []=>0
 | p :: l=>bif eq x p.1 then 0 else mpos eq x l+1
def mput {κ α:Type} (eq:κ->κ->Bool) (x:κ) (v:α):List (κ × α)->List (κ × α)
 | []=>[(x,v)]
 | p :: l=>bif eq x p.1 then (x,v) :: l else p :: mput eq x v l
def mset {κ α:Type}:List (κ × α)->Nat->α->List (κ × α)
 | [],_,_=>[]
 | p :: l,0,v=>(p.1,v) :: l
 | p :: l,n+1,v=>p :: mset l n v
def mpFor (m:Mem) (kt vt:Ty):AV->Option (Nat × List (kt.T × vt.T))
 | .mp τ=>match mget τ m with
  | .mp k' v' l=>match Ty.conv (.slice (.pair k' v')) (.slice (.pair kt vt)) l with
   | some l'=>some (τ,l')
   | none=>none
  | _=>none
 | _=>none
def mlookK {kt vt:Ty} (x:kt.T) (l:List (kt.T × vt.T)):vt.T:=mlook kt.beq vt.zero x l
def mhasK {kt vt:Ty} (x:kt.T) (l:List (kt.T × vt.T)):Bool:=mhas kt.beq x l
def mposK {kt vt:Ty} (x:kt.T) (l:List (kt.T × vt.T)):Nat:=mpos kt.beq x l
def mputK {kt vt:Ty} (x:kt.T) (v:vt.T) (l:List (kt.T × vt.T)):List (kt.T × vt.T):=mput kt.beq x v l
def pairAV (a b:AV):AV:=.tu (.cons a (.cons b .nil))
def eqI (a b:Int):Bool:=a == b
def ysget (n:Nat):List (Nat × List Nat × Spec)->Option (List Nat × Spec)
 | []=>none
 | (m,v) :: l=>bif Nat.beq m n then some v else ysget n l
def fmFor (m:Mem):AV->Option (Nat × List Int × AV)
 | .mp τ=>match mget τ m with
  | .fm ks vs=>some (τ,ks,vs)
  | _=>none
 | _=>none
def moAt (m:Mem) (kt t:Ty) (τ:Nat):Option (List (kt.T × List t.T) × Option (Nat × Nat)):=match mget τ m with
 | .mo k' t' l h=>match Ty.conv (.slice (.pair k' (.slice t'))) (.slice (.pair kt (.slice t))) l with
  | some l'=>some (l',h)
  | none=>none
 | _=>none
def rowAt (m:Mem) (t:Ty) (σ:Nat):Option (List t.T):=match mget σ m with
 | .row t' xs=>Ty.conv (.slice t') (.slice t) xs
 | _=>none
def moBack (m:Mem) (kt t:Ty) (τ:Nat):Option (List (kt.T × List t.T) × Mem):=match moAt m kt t τ with
 | some (l,none)=>some (l,m)
 | some (l,some (σ,i))=>bif Nat.beq σ τ then none else match rowAt m t σ with
  | some xs=>some (mset l i xs,(τ,.mo kt t (mset l i xs) none) :: (σ,.gone) :: m)
  | none=>none
 | none=>none
def mlookR {kt t:Ty} (x:kt.T) (l:List (kt.T × List t.T)):List t.T:=mlook kt.beq [] x l
def mhasR {kt t:Ty} (x:kt.T) (l:List (kt.T × List t.T)):Bool:=mhas kt.beq x l
def mposR {kt t:Ty} (x:kt.T) (l:List (kt.T × List t.T)):Nat:=mpos kt.beq x l
def mputR {kt t:Ty} (x:kt.T) (v:List t.T) (l:List (kt.T × List t.T)):List (kt.T × List t.T):=mput kt.beq x v l
def moFit (i:Nat):Option (Nat × Nat)->Bool
 | none=>true
 | some (_,j)=>Nat.beq j i
def fmSel {R:Type} (n:Int) (z:Option R) (k:AV->Option R):List Int->AV->Option R
 | [],_=>z
 | a :: ks,.cons v vs=>bif eqI n a then k v else fmSel n z k ks vs
 | _ :: _,_=>none
def AV.isFn:AV->Bool
 | .fn _ _ _=>true
 | _=>false
def AV.snoc:AV->AV->AV
 | .cons a b,v=>.cons a (b.snoc v)
 | .nil,v=>.cons v .nil
 | _,_=>.dead
def snocI:List Int->Int->List Int
 | [],n=>[n]
 | a :: l,n=>a :: snocI l n
theorem Yir (n:Int):∀ l,snocI l n=l++[n]
 | []=>rfl
 | a :: l=>by rw[snocI,Yir n l]; rfl
def hasI (n:Int):List Int->Bool
 | []=>false
 | a :: l=>bif eqI n a then true else hasI n l
def req {R:Type} (b:Bool) (k:Option R):Option R:=bif b then k else none
def inb (i:Int) (n:Nat):Bool:=decide (0 <= i) && decide (i < n)
def Y3e {R:Type} (n:Int):List Sel->Nat->(Sel->Option R)->Option R
 | [],_,_=>none
 | s :: l,j,k=>cond (n == (j:Int)) (k s) (Y3e n l (j+1) k)
def byteAt (s:List UInt8) (n:Nat):Int:=((getAt 0 s n).toNat:Int)
def lenL (t:Ty) (l:List t.T):Nat:=l.length
def lenS (s:List UInt8):Nat:=s.length
def toN (i:Int):Nat:=i.toNat
def intBits (k:IntKind) (a b:Int) (f:BitVec k.bits->BitVec k.bits->BitVec k.bits):Int:=k.wrap (f (BitVec.ofInt k.bits a) (BitVec.ofInt k.bits b)).toNat
def shlI (k:IntKind) (a b:Int):Int:=k.wrap (a * 2 ^ min b.toNat k.bits)
def shrI (k:IntKind) (a b:Int):Int:=a.fdiv (2 ^ min b.toNat k.bits)
def intBin {R:Type} (kx ky:IntKind) (a b:Int) (op:BinOp) (k:AV->Option R):Option R :=
 match op with
 | .shl=>req (decide (0 <= b)) (k (.d (.int kx) (shlI kx a b)))
 | .shr=>req (decide (0 <= b)) (k (.d (.int kx) (shrI kx a b)))
 | .add=>bif Nat.beq (kno kx) (kno ky) then k (.d (.int kx) (kx.wrap (a+b))) else none
 | .sub=>bif Nat.beq (kno kx) (kno ky) then k (.d (.int kx) (kx.wrap (a - b))) else none
 | .mul=>bif Nat.beq (kno kx) (kno ky) then k (.d (.int kx) (kx.wrap (a * b))) else none
 | .quo=>bif Nat.beq (kno kx) (kno ky) then req (b != 0) (k (.d (.int kx) (kx.wrap (a.tdiv b)))) else none
 | .rem=>bif Nat.beq (kno kx) (kno ky) then req (b != 0) (k (.d (.int kx) (a.tmod b))) else none
 | .and=>bif Nat.beq (kno kx) (kno ky) then k (.d (.int kx) (intBits kx a b (· &&& ·))) else none
 | .or=>bif Nat.beq (kno kx) (kno ky) then k (.d (.int kx) (intBits kx a b (· ||| ·))) else none
 | .xor=>bif Nat.beq (kno kx) (kno ky) then k (.d (.int kx) (intBits kx a b (· ^^^ ·))) else none
 | .andNot=>bif Nat.beq (kno kx) (kno ky) then k (.d (.int kx) (intBits kx a b (fun x y=>x &&& ~~~y))) else none
 | .eql=>bif Nat.beq (kno kx) (kno ky) then k (.d .bool (a == b:Bool)) else none
 | .neq=>bif Nat.beq (kno kx) (kno ky) then k (.d .bool (a != b:Bool)) else none
 | .lss=>bif Nat.beq (kno kx) (kno ky) then k (.d .bool (decide (a < b))) else none
 | .leq=>bif Nat.beq (kno kx) (kno ky) then k (.d .bool (decide (a <= b))) else none
 | .gtr=>bif Nat.beq (kno kx) (kno ky) then k (.d .bool (decide (a > b))) else none
 | .geq=>bif Nat.beq (kno kx) (kno ky) then k (.d .bool (decide (a ≥ b))) else none
def eqSel {R:Type} (op:BinOp) (b:Bool) (k:AV->Option R):Option R :=
 match op with
 | .eql=>k (.d .bool b)
 | .neq=>k (.d .bool (!b))
 | _=>none
def strBin {R:Type} (a b:List UInt8) (op:BinOp) (k:AV->Option R):Option R :=
 match op with
 | .eql=>k (.d .bool (a == b:Bool))
 | .neq=>k (.d .bool (!(a == b):Bool))
 | .add=>req (Nat.ble (a.length+b.length) 4611686018427387904) (k (.d .str (a++b)))
 | _=>none
def listAV:AV->Option (List AV)
 | .nil=>some []
 | .cons a b=>match listAV b with
  | some l=>some (a :: l)
  | none=>none
 | _=>none
def lenAV:AV->Nat
 | .cons _ b=>lenAV b+1
 | _=>0
def nthAV:AV->Nat->AV
 | .cons a _,0=>a
 | .cons _ b,n+1=>nthAV b n
 | _,_=>.dead
def sub3 (l h:Int) (n:Nat):Bool:=decide (0 <= l) && (decide (l <= h) && decide (h <= n))
def ioOf (fr:Fr) (dflt:Int):Option Operand->Option Int
 | none=>some dflt
 | some x=>match ev fr x with
  | .d (.int _) n=>some n
  | _=>none
def bytesI (s:List UInt8):List Int:=s.map fun b=>(b.toNat:Int)
def Y63 (m:Mem) (t:Ty):AV->Option (List t.T)
 | .d (.slice t') ys=>Ty.conv (.slice t') (.slice t) ys
 | .d .str s=>Ty.conv (.slice (.int .u8)) (.slice t) (bytesI s)
 | .nl=>some []
 | .sl τ=>match mget τ m with
  | .row t' ys=>Ty.conv (.slice t') (.slice t) ys
  | .frz t' ys=>Ty.conv (.slice t') (.slice t) ys
  | _=>none
 | .vw τ lo n sz=>match mget τ m with
  | .row t' ys=>bif Nat.beq sz t'.size then Ty.conv (.slice t') (.slice t) (cut ys lo n) else none
  | .frz t' ys=>bif Nat.beq sz t'.size then Ty.conv (.slice t') (.slice t) (cut ys lo n) else none
  | _=>none
 | _=>none
def rowFor (m:Mem) (t:Ty):AV->Option (Option Nat × List t.T)
 | .nl=>some (none,[])
 | .sl τ=>match mget τ m with
  | .row t' ys=>match Ty.conv (.slice t') (.slice t) ys with
   | some xs=>some (some τ,xs)
   | none=>none
  | _=>none
 | .vw τ lo n sz=>match mget τ m with
  | .row t' ys=>bif Nat.beq sz t'.size then match Ty.conv (.slice t') (.slice t) (cut ys lo n) with
   | some xs=>some (some τ,xs)
   | none=>none else none
  | _=>none
 | _=>none
def dstFor (m:Mem) (t:Ty):AV->Option (Nat × Nat × Nat × List t.T)
 | .sl τ=>match mget τ m with
  | .row t' ys=>match Ty.conv (.slice t') (.slice t) ys with
   | some xs=>some (τ,0,lenL t xs,xs)
   | none=>none
  | _=>none
 | .vw τ lo n sz=>match mget τ m with
  | .row t' ys=>bif Nat.beq sz t'.size then match Ty.conv (.slice t') (.slice t) ys with
   | some xs=>some (τ,lo,n,xs)
   | none=>none else none
  | _=>none
 | _=>none
def over {α:Type} (xs ys:List α) (lo n:Nat):List α:=xs.take lo++ys.take n++xs.drop (lo+n)
def lenMin (t:Ty) (ys:List t.T) (n:Nat):Nat:=min ys.length n
def fits (n:Nat):Bool:=Nat.ble n 4294967296
def mkOK (n c:Int):Bool:=decide (0 <= n) && (decide (n <= c) && fits (toN c))
def natI (n:Nat):Int:=n
section
variable (C:Ctx) {R:Type}
def sliceA (i:TI) (m:Mem) (l h:Int->Option Int) (k:AV->Option R):AV->Option R
 | .d .str s=>bif Nat.beq i.kind 5 then match l 0,h (lenS s) with
  | some l,some h=>req (sub3 l h (lenS s)) (k (.d .str (cut s (toN l) (toN h - toN l))))
  | _,_=>none else none
 | .d (.slice e) xs=>bif Nat.beq i.kind 2 && Nat.beq e.size i.ety.size then match l 0,h (lenL e xs) with
  | some l,some h=>req (sub3 l h (lenL e xs)) (k (.d (.slice e) (cut xs (toN l) (toN h - toN l))))
  | _,_=>none else none
 | .nl=>bif Nat.beq i.kind 2 then match l 0,h 0 with
  | some l,some h=>req (sub3 l h 0) (k .nl)
  | _,_=>none else none
 | .sl τ=>match mget τ m with
  | .row e xs=>bif Nat.beq i.kind 2 && Nat.beq e.size i.ety.size then match l 0,h (lenL e xs) with
   | some l,some h=>req (sub3 l h (lenL e xs)) (k (.vw τ (toN l) (toN h - toN l) e.size))
   | _,_=>none else none
  | .frz e xs=>bif Nat.beq i.kind 2 && Nat.beq e.size i.ety.size then match l 0,h (lenL e xs) with
   | some l,some h=>req (sub3 l h (lenL e xs)) (k (.d (.slice e) (cut xs (toN l) (toN h - toN l))))
   | _,_=>none else none
  | _=>none
 | .vw τ lo q sz=>bif Nat.beq i.kind 2 && Nat.beq sz i.ety.size then match l 0,h (q:Int) with
  | some l,some h=>req (sub3 l h q) (k (.vw τ (lo+toN l) (toN h - toN l) sz))
  | _,_=>none else none
 | .ptr τ p=>bif Nat.beq i.kind 3 then match l 0,h (i.alen:Int) with
  | some l,some h=>bif eqI l 0 && eqI h i.alen then k (.va τ p i.alen i.esz) else none
  | _,_=>none else none
 | _=>none
def AV.force (v:AV) (k:AV->Option R):Option R :=
 match v with
 | .d t x=>k (.d t x)
 | .pr a b=>k (.pr a b)
 | .one a=>k (.one a)
 | .nl=>k .nl
 | .sl τ=>k (.sl τ)
 | .vw τ lo n sz=>k (.vw τ lo n sz)
 | .va τ p n sz=>k (.va τ p n sz)
 | .ptr τ p=>k (.ptr τ p)
 | .nilp=>k .nilp
 | .pv t x=>k (.pv t x)
 | .mp τ=>k (.mp τ)
 | .nilm=>k .nilm
 | .fn f a b=>k (.fn f a b)
 | .nilf=>k .nilf
 | .ifc t v=>k (.ifc t v)
 | .yl τ=>k (.yl τ)
 | .nili=>k .nili
 | .tu vs=>k (.tu vs)
 | .nil=>k .nil
 | .cons a b=>k (.cons a b)
 | .dead=>k .dead
def fields (m:Mem) (flds:List Sel) (fsz:List Nat) (v:AV):List (AV × Nat)->Option AV
 | []=>some v
 | (x,i) :: l=>bif Nat.blt i flds.length && (Nat.beq x.size (getAt 0 fsz i) && x.sto) then match v.set m x [getAt .inn flds i] with
  | some v'=>fields m flds fsz v' l
  | none=>none else none
def rowOf (m:Mem) (t:Ty):List (Nat × AV)->Nat->Option (List t.T)
 | [],_=>some []
 | (i,v) :: l,j=>bif Nat.beq i j && v.sto then match v.data m t with
   | some x=>match rowOf m t l (j+1) with
    | some xs=>some (x :: xs)
    | none=>none
   | none=>none
  else none
def loadA (m:Mem) (k:AV->Option R):AV->Option R
 | .ptr τ p=>match mget τ m with
  | .var v=>match v.get p with
   | some x=>k x
   | none=>none
  | .row t xs=>match p with
   | .row i sz :: q=>bif Nat.beq sz t.size then match (AV.d t (getAt t.zero xs i)).get q with
    | some x=>k x
    | none=>none else none
   | _=>none
  | _=>none
 | .pv t x=>k (.d t x)
 | _=>none
def storeA (m:Mem) (x:AV) (k:Mem->Option R):AV->Option R
 | .ptr τ p=>bif x.sto then match mget τ m with
  | .var v=>match v.set m x p with
   | some v'=>k ((τ,.var v') :: m)
   | none=>none
  | .row t xs=>match mget τ (frzL x.toks m) with
   | .row _ _=>match p with
    | .row i sz :: q=>bif Nat.beq sz t.size then match (AV.d t (getAt t.zero xs i)).set (frzL x.toks m) x q with
     | some v'=>match v'.data (frzL x.toks m) t with
      | some y=>k ((τ,.row t (xs.set i y)) :: frzL x.toks m)
      | none=>none
     | none=>none else none
    | _=>none
   | _=>none
  | _=>none else none
 | _=>none
def lenA (m:Mem) (kind alen:Nat):AV->Option Int
 | .d (.slice t) xs=>bif Nat.beq kind 2 then some ((xs:List t.T).length:Int) else none
 | .d .str xs=>bif Nat.beq kind 5 then some ((xs:List UInt8).length:Int) else none
 | .nl=>bif Nat.beq kind 2 then some 0 else none
 | .sl τ=>bif Nat.beq kind 2 then match mget τ m with
  | .row t xs=>some (xs.length:Int)
  | .frz t xs=>some (xs.length:Int)
  | _=>none else none
 | .vw _ _ n _=>bif Nat.beq kind 2 then some (n:Int) else none
 | .va _ _ n _=>bif Nat.beq kind 2 then some (n:Int) else none
 | .mp τ=>bif Nat.beq kind 6 then match mget τ m with
  | .mp _ _ l=>some (l.length:Int)
  | _=>none else none
 | .ptr _ _=>bif Nat.beq kind 7 then some (alen:Int) else none
 | _=>bif Nat.beq kind 3 then some (alen:Int) else none
def moLook (key:AV) (m:Mem) (N:Nat) (kt:Ty) (ety:Ty) (k:AV->Mem->Nat->Option R):AV->Option R
 | .mp τ=>match ety with
  | .slice t=>match key.data m kt,moBack m kt t τ with
   | some x,some (l,m1)=>cond (mhasR x l) (k (.sl N) ((N,.row t (mlookR x l)) :: (τ,.mo kt t l (some (N,mposR x l))) :: m1) (N+1)) (k .nl m1 N)
   | _,_=>none
  | _=>none
 | _=>none
def moPut (key v:AV) (m:Mem) (N:Nat) (kt:Ty) (ety:Ty) (k:AV->Mem->Nat->Option R):AV->Option R
 | .mp τ=>match ety with
  | .slice t=>match v with
   | .sl σ=>match key.data m kt,moAt m kt t τ,rowAt m t σ with
    | some x,some (l,h),some ys=>bif moFit (mposR x l) h then k .dead ((τ,.mo kt t (mputR x ys l) none) :: (σ,.gone) :: m) N else none
    | _,_,_=>none
   | _=>none
  | _=>none
 | _=>none
def moNew (m:Mem) (N:Nat) (kt:Ty) (ety:Ty) (k:AV->Mem->Nat->Option R):Option R:=match ety with
 | .slice t=>k (.mp N) ((N,.mo kt t [] none) :: m) (N+1)
 | _=>none
def Y1y (i:TI) (m:Mem) (N:Nat) (l h:Int->Option Int) (k:AV->Mem->Nat->Option R):AV->Option R
 | .ptr τ []=>match mget τ m with
  | .var (.d (.arr n e) xs)=>match l 0,h (i.alen:Int) with
   | some l,some h=>bif Nat.beq n i.alen && (Nat.beq e.size i.esz && eqI l 0) then req (sub3 0 h n) (k (.d (.slice e) (cut (xs:List e.T) 0 (toN h))) ((τ,.gone) :: m) N) else none
   | _,_=>none
  | _=>none
 | _=>none
def isVa:AV->Bool
 | .va _ _ _ _=>true
 | _=>false
def copyVa (m:Mem) (t:Ty) (ys:List t.T) (k:Nat->Mem->Option R):AV->Option R
 | .va τ p n sz=>bif Nat.beq sz t.size then match mget τ m with
  | .var v=>match v.get p with
   | some (.d t' xs)=>match Ty.conv t' (.arr n t) xs with
    | some xs'=>match v.set m (.d (.arr n t) (over (xs':List t.T) ys 0 (lenMin t ys n))) p with
     | some v'=>k (lenMin t ys n) ((τ,.var v') :: m)
     | none=>none
    | none=>none
   | _=>none
  | _=>none else none
 | _=>none
def aop (ops:Op) (type:TypeId) (fr:Fr) (m:Mem) (N:Nat) (k kp:AV->Mem->Nat->Option R):Option R :=
 match ops with
 | .move x=>k (ev fr x) m N
 | .assign x=>k (ev fr x) m N
 | .pick c a b=>match ev fr c with
  | .d .bool t=>cond t (k (ev fr a) m N) (k (ev fr b) m N)
  | _=>none
 | .alloc t=>match tget t C.tb with
  | some i=>k (.ptr N []) ((N,.var i.zero) :: m) (N+1)
  | none=>none
 | .box t x=>bif (ev fr x).sto then k (.ptr N []) ((N,.var (ev fr x)) :: m) (N+1) else none
 | .build t parts=>match tget t C.tb with
  | some i=>bif Nat.blt 0 i.flds.length && i.agg then match fields m i.flds i.fsz i.zero (parts.toList.map fun p=>(ev fr p.2,p.1)) with
   | some v=>bif v.isAgg then k v m N else none
   | none=>none else none
  | none=>none
 | .buildSlice t n parts=>match tget t C.tb with
  | some i=>match rowOf (frzL (toksL (parts.toList.map fun p=>ev fr p.2)) m) i.ety (parts.toList.map fun p=>(p.1,ev fr p.2)) 0 with
   | some xs=>bif Nat.beq i.kind 2 && (Nat.beq n xs.length && Nat.ble (n * i.ety.size) 16777216) then k (.sl N) ((N,.row i.ety xs) :: frzL (toksL (parts.toList.map fun p=>ev fr p.2)) m) (N+1) else none
   | none=>none
  | none=>none
 | .load t a=>match tget t C.tb with
  | some i=>loadA m (fun v=>bif Nat.beq v.size i.size && (v.isAgg == i.agg) then k v m N else none) (ev fr a)
  | none=>none
 | .store t a x=>match tget t C.tb with
  | some i=>bif Nat.beq (ev fr x).size i.size then storeA m (ev fr x) (fun m=>k .dead m N) (ev fr a) else none
  | none=>none
 | .binOp op t x y _=>match ev fr x,ev fr y with
  | .d (.int kx) a,.d (.int ky) b=>intBin kx ky a b op (fun v=>k v m N)
  | .d .str a,.d .str b=>strBin a b op (fun v=>k v m N)
  | u,v=>match tget t C.tb with
   | some i=>bif i.eqk && i.ty.cmpk then match u.data m i.ty,v.data m i.ty with
    | some a,some b=>eqSel op (i.ty.beq a b) (fun v=>k v m N)
    | _,_=>none else none
   | none=>none
 | .unOp .not _ x=>match ev fr x with
  | .d .bool b=>k (.d .bool (!b)) m N
  | _=>none
 | .fieldAddr t x f=>match tget t C.tb with
  | some i=>bif Nat.blt f i.flds.length && Nat.beq i.kind 1 then match ev fr x with
   | .ptr τ p=>k (.ptr τ (p++[getAt .inn i.flds f])) m N
   | .pv t x=>match (AV.d t x).sel (getAt .inn i.flds f) with
    | some (.d t' x')=>bif Nat.blt 0 t'.size then k (.pv t' x') m N else none
    | _=>none
   | _=>none else none
  | none=>none
 | .field t x f=>match tget t C.tb with
  | some i=>bif Nat.blt f i.flds.length && (Nat.beq i.kind 1 && (ev fr x).isAgg) then match (ev fr x).sel (getAt .inn i.flds f) with
   | some v=>bif Nat.beq v.size (getAt 0 i.fsz f) && (v.isAgg == getAt false i.fag f) then k v m N else none
   | none=>none else none
  | none=>none
 | .indexAddr t x ix=>match tget t C.tb with
  | some i=>match ev fr x,ev fr ix with
   | .d (.slice e) l,.d (.int _) n=>bif Nat.beq i.kind 2 && Nat.beq e.size i.ety.size then req (inb n (lenL e l)) (k (.pv e (getAt e.zero l (toN n))) m N) else none
   | .sl τ,.d (.int _) n=>match mget τ m with
    | .row e l=>bif Nat.beq i.kind 2 && Nat.beq e.size i.ety.size then req (inb n (lenL e l)) (k (.ptr τ [.row (toN n) e.size]) m N) else none
    | .frz e l=>bif Nat.beq i.kind 2 && Nat.beq e.size i.ety.size then req (inb n (lenL e l)) (k (.pv e (getAt e.zero l (toN n))) m N) else none
    | _=>none
   | .vw τ lo q sz,.d (.int _) n=>match mget τ m with
    | .row e l=>bif Nat.beq i.kind 2 && (Nat.beq e.size i.ety.size && Nat.beq sz e.size) then req (inb n q) (k (.ptr τ [.row (lo+toN n) e.size]) m N) else none
    | .frz e l=>bif Nat.beq i.kind 2 && (Nat.beq e.size i.ety.size && Nat.beq sz e.size) then req (inb n (lenL e (cut l lo q))) (k (.pv e (getAt e.zero (cut l lo q) (toN n))) m N) else none
    | _=>none
   | .va τ p q sz,.d (.int _) n=>bif Nat.beq i.kind 2 && Nat.beq sz i.ety.size then req (inb n q) (k (.ptr τ (p++[.idx (toN n) sz q])) m N) else none
   | .ptr τ p,.d (.int _) n=>bif Nat.beq i.kind 3 then req (inb n i.alen) (k (.ptr τ (p++[.idx (toN n) i.esz i.alen])) m N) else
     bif Nat.beq i.kind 4 && Nat.beq i.alen i.flds.length then Y3e n i.flds 0 fun s=>k (.ptr τ (p++[s])) m N else none
   | _,_=>none
  | none=>none
 | .index t x ix=>match tget t C.tb with
  | some i=>match ev fr x,ev fr ix with
   | .d .str s,.d (.int _) n=>bif Nat.beq i.kind 5 then req (inb n (lenS s)) (k (.d (.int .u8) (byteAt s (toN n))) m N) else none
   | .d (.arr n' e) xs,.d (.int _) n=>bif Nat.beq i.kind 3 && (Nat.beq n' i.alen && (Nat.beq e.size i.esz && ((AV.d e e.zero).isAgg == getAt false i.fag 0))) then req (inb n n') (k (.d e (getAt e.zero (xs:List e.T) (toN n))) m N) else none
   | v,.d (.int _) n=>bif Nat.beq i.kind 4 && (Nat.beq i.alen i.flds.length && v.isAgg) then Y3e n i.flds 0 fun s=>match v.sel s with
     | some v'=>bif Nat.beq v'.size i.esz && (v'.isAgg == getAt false i.fag 0) then k v' m N else none
     | none=>none else none
   | _,_=>none
  | none=>none
 | .extract t i=>match ev fr t with
  | .tu vs=>bif Nat.blt i (lenAV vs) then k (nthAV vs i) m N else none
  | _=>none
 | .makeFunc (.func f) first cap=>k (.fn f (avList (first.toList.map (ev fr))) (avList (cap.toList.map (ev fr)))) m N
 | .slice t x lo hi none=>match tget t C.tb with
  | some i=>bif Nat.beq i.kind 3 && hi.isSome then Y1y i m N (fun d=>ioOf fr d lo) (fun d=>ioOf fr d hi) k (ev fr x) else sliceA i m (fun d=>ioOf fr d lo) (fun d=>ioOf fr d hi) (fun v=>k v m N) (ev fr x)
  | none=>none
 | .slice t x lo (some hi) (some mx)=>match tget t C.tb with
  | some i=>match ev fr x with
   | .d (.slice e) xs=>bif Nat.beq i.kind 2 && Nat.beq e.size i.ety.size then match ioOf fr 0 lo,ioOf fr 0 (some hi),ioOf fr 0 (some mx) with
    | some l,some h,some q=>req (sub3 l h (lenL e xs) && sub3 h q (lenL e xs)) (k (.d (.slice e) (cut (xs:List e.T) (toN l) (toN h - toN l))) m N)
    | _,_,_=>none else none
   | _=>none
  | none=>none
 | .makeSlice t x y=>match tget t C.tb,ev fr x,ev fr y with
  | some i,.d (.int _) n,.d (.int _) c=>bif Nat.beq i.kind 2 && Nat.ble i.bytes 4096 then
    req (mkOK n c) (k (.sl N) ((N,.row i.ety (List.replicate (toN n) i.ety.zero)) :: m) (N+1)) else none
  | _,_,_=>none
 | .convert s t x=>match tget t C.tb,tget s C.tb,ev fr x with
  | some i,some _,.d (.int _) n=>match i.ty with
   | .int kd=>bif Nat.beq i.kind 8 then k (.d (.int kd) (kd.wrap n)) m N else none
   | _=>none
  | _,_,_=>none
 | .nilCheck x=>match ev fr x with
  | .ptr τ p=>k (.ptr τ p) m N
  | .pv t x=>k (.pv t x) m N
  | .ifc t v=>k (.ifc t v) m N
  | .fn f a b=>k (.fn f a b) m N
  | _=>none
 | .makeInterface t x=>match tget t C.tb with
  | some i=>bif i.notI && (ev fr x).sto then k (.ifc t (ev fr x)) m N else none
  | none=>none
 | .typeAssert x _ t ok=>match tget t C.tb with
  | some i=>match ev fr x with
   | .ifc t' v=>bif i.notI && Nat.beq t' t then (bif ok then k (pairAV v (.d .bool true)) m N else k v m N) else none
   | .nili=>bif i.notI && ok then k (pairAV i.zero (.d .bool false)) m N else none
   | _=>none
  | none=>none
 | .panic x=>match ev fr x with
  | .ifc t v=>kp (.ifc t v) m N
  | _=>none
 | .makeMap t r=>match tget t C.tb with
  | some i=>bif Nat.beq i.kind 6 && i.mky then (match r with
   | none=>k (.mp N) ((N,.mp i.kty i.ety []) :: m) (N+1)
   | some x=>match ev fr x with
    | .d (.int _) _=>k (.mp N) ((N,.mp i.kty i.ety []) :: m) (N+1)
    | _=>none) else bif Nat.beq i.kind 6 && i.fmk then (match r with
   | none=>k (.mp N) ((N,.fm [] .nil) :: m) (N+1)
   | some x=>match ev fr x with
    | .d (.int _) _=>k (.mp N) ((N,.fm [] .nil) :: m) (N+1)
    | _=>none) else bif Nat.beq i.kind 6 && i.mok then (match r with
   | none=>moNew m N i.kty i.ety k
   | some x=>match ev fr x with
    | .d (.int _) _=>moNew m N i.kty i.ety k
    | _=>none) else none
  | none=>none
 | .lookup t x ix ok=>match tget t C.tb with
  | some i=>bif Nat.beq i.kind 6 && i.mky then match (ev fr ix).data m i.kty with
   | some key=>match ev fr x with
    | .nilm=>bif ok then k (pairAV (.d i.ety i.ety.zero) (.d .bool false)) m N else k (.d i.ety i.ety.zero) m N
    | v=>match mpFor m i.kty i.ety v with
     | some (_,l)=>bif ok then k (pairAV (.d i.ety (mlookK key l)) (.d .bool (mhasK key l))) m N else k (.d i.ety (mlookK key l)) m N
     | none=>none
   | none=>none else bif Nat.beq i.kind 6 && i.fmk then match (ev fr ix).data m (.int .i64),fmFor m (ev fr x) with
   | some n,some (_,ks,vs)=>fmSel n (bif ok then k (pairAV .nilf (.d .bool false)) m N else k .nilf m N) (fun v=>bif ok then k (pairAV v (.d .bool true)) m N else k v m N) ks vs
   | _,_=>none else bif Nat.beq i.kind 6 && (i.mok && !ok) then moLook (ev fr ix) m N i.kty i.ety k (ev fr x) else none
  | none=>none
 | .mapUpdate t x kk v=>match tget t C.tb with
  | some i=>bif Nat.beq i.kind 6 && i.mky then match (ev fr kk).data m i.kty,(ev fr v).data (frzL (ev fr v).toks m) i.ety,mpFor (frzL (ev fr v).toks m) i.kty i.ety (ev fr x) with
   | some key,some y,some (τ,l)=>k .dead ((τ,.mp i.kty i.ety (mputK key y l)) :: frzL (ev fr v).toks m) N
   | _,_,_=>none else bif Nat.beq i.kind 6 && i.fmk then match (ev fr kk).data m (.int .i64),fmFor m (ev fr x) with
   | some n,some (τ,ks,vs)=>bif !hasI n ks && (ev fr v).isFn then k .dead ((τ,.fm (snocI ks n) (vs.snoc (ev fr v))) :: m) N else none
   | _,_=>none else bif Nat.beq i.kind 6 && i.mok then moPut (ev fr kk) (ev fr v) m N i.kty i.ety k (ev fr x) else none
  | none=>none
 | .insert t x kk v=>match tget t C.tb with
  | some i=>bif Nat.beq i.kind 6 && i.mky then match (ev fr kk).data m i.kty,(ev fr v).data (frzL (ev fr v).toks m) i.ety,mpFor (frzL (ev fr v).toks m) i.kty i.ety (ev fr x) with
   | some key,some y,some (τ,l)=>k .dead ((τ,.mp i.kty i.ety (mputK key y l)) :: frzL (ev fr v).toks m) N
   | _,_,_=>none else bif Nat.beq i.kind 6 && i.fmk then match (ev fr kk).data m (.int .i64),fmFor m (ev fr x) with
   | some n,some (τ,ks,vs)=>bif !hasI n ks && (ev fr v).isFn then k .dead ((τ,.fm (snocI ks n) (vs.snoc (ev fr v))) :: m) N else none
   | _,_=>none else bif Nat.beq i.kind 6 && i.mok then moPut (ev fr kk) (ev fr v) m N i.kty i.ety k (ev fr x) else none
  | none=>none
 | .mapEntry t x kk=>match tget t C.tb with
  | some i=>bif Nat.beq i.kind 6 && i.mky then match (ev fr kk).data m i.kty,mpFor m i.kty i.ety (ev fr x) with
   | some key,some (τ,l)=>k (pairAV (.d i.ety (mlookK key l)) (.d (.int .i64) (natI (mposK key l)))) ((τ,.mp i.kty i.ety (mputK key (mlookK key l) l)) :: m) N
   | _,_=>none else none
  | none=>none
 | .entryStore t x s v=>match tget t C.tb with
  | some i=>bif Nat.beq i.kind 6 && i.mky then match ev fr s,(ev fr v).data (frzL (ev fr v).toks m) i.ety,mpFor (frzL (ev fr v).toks m) i.kty i.ety (ev fr x) with
   | .d (.int _) n,some y,some (τ,l)=>req (inb n l.length) (k .dead ((τ,.mp i.kty i.ety (mset l (toN n) y)) :: frzL (ev fr v).toks m) N)
   | _,_,_=>none else none
  | none=>none
 | .call c=>match c.callee with
  | .builtin .clear=>match c.args.toList,c.argTypes.toList with
   | [x],[t]=>match tget t C.tb with
    | some i=>bif Nat.beq i.kind 2 then match dstFor m i.ety (ev fr x) with
     | some (τ,lo,n,xs)=>k (.tu .nil) ((τ,.row i.ety (over xs (List.replicate n i.ety.zero) lo n)) :: m) N
     | none=>none else none
    | none=>none
   | _,_=>none
  | .builtin .append=>match c.args.toList,c.argTypes.toList with
   | [x,y],[t,u]=>match tget t C.tb,tget u C.tb with
    | some i,some j=>bif Nat.beq i.kind 2 && ((Nat.beq j.kind 2 || Nat.beq j.kind 5) && Nat.ble i.bytes 4096) then match rowFor m i.ety (ev fr x),Y63 m i.ety (ev fr y) with
     | some (some τ,xs),some ys=>req (fits (lenL i.ety xs+lenL i.ety ys)) (k (.sl N) ((N,.row i.ety (xs++ys)) :: (τ,.gone) :: m) (N+1))
     | some (none,_),some ys=>req (fits (lenL i.ety ys)) (k (.sl N) ((N,.row i.ety ys) :: m) (N+1))
     | _,_=>none else none
    | _,_=>none
   | _,_=>none
  | .builtin .copy=>match c.args.toList,c.argTypes.toList with
   | [x,y],[t,_]=>match tget t C.tb with
    | some i=>bif Nat.beq i.kind 2 then bif isVa (ev fr x) then match Y63 m i.ety (ev fr y) with
     | some ys=>copyVa m i.ety ys (fun n m=>k (.d (.int .i64) (natI n)) m N) (ev fr x)
     | none=>none else match dstFor m i.ety (ev fr x),Y63 m i.ety (ev fr y) with
     | some (τ,lo,n,xs),some ys=>k (.d (.int .i64) (natI (lenMin i.ety ys n))) ((τ,.row i.ety (over xs ys lo (lenMin i.ety ys n))) :: m) N
     | _,_=>none else none
    | none=>none
   | _,_=>none
  | .builtin .min=>match c.args.toList with
   | [x,y]=>match ev fr x,ev fr y with
    | .d (.int kx) a,.d (.int _) b=>k (.d (.int kx) (min a b:Int)) m N
    | _,_=>none
   | _=>none
  | .builtin .max=>match c.args.toList with
   | [x,y]=>match ev fr x,ev fr y with
    | .d (.int kx) a,.d (.int _) b=>k (.d (.int kx) (max a b:Int)) m N
    | _,_=>none
   | _=>none
  | .builtin .len=>match c.args.toList,c.argTypes.toList with
   | [x],[t]=>match tget t C.tb with
    | some i=>match lenA m i.kind i.alen (ev fr x) with
     | some n=>k (.d (.int .i64) n) m N
     | none=>none
    | none=>none
   | _,_=>none
  | .value f=>match ev fr f with
   | .fn g first cap=>match listAV first,listAV cap with
    | some l1,some l2=>let args:=l1++c.args.toList.map (ev fr)++l2
     match fxget g (closOf args) C.fx with
     | some s=>s.run args m N k kp
     | none=>C.miss g (closOf args) args m N k kp
    | _,_=>none
   | .yl τ=>match mget τ m with
    | .lp id slots sv tag=>match ysget id C.ys,listAV sv with
     | some (sl,s),some l=>bif tag == (0:Int) && beqNs sl slots then s.run (l++c.args.toList.map (ev fr)) ((τ,.gone) :: m) N (fun v m N=>match v with
       | .d (.int _) t=>cond (eqI t 0) (k (.d .bool true) ((τ,.lp id slots sv 0) :: m) N) (k (.d .bool false) ((τ,.lp id slots sv t) :: m) N)
       | _=>none) (fun _ _ _=>none) else none
     | _,_=>none
    | _=>none
   | _=>none
  | _=>none
 | _=>none
open Classical in
noncomputable def amb (x y:Option R):Option R:=if x=y then x else none
noncomputable def eqNilA (m:Mem) (k:Bool->Option R):AV->Option R
 | .nl=>k true
 | .d (.slice t) xs=>bif Nat.beq (lenL t xs) 0 then amb (k true) (k false) else k false
 | .sl τ=>match mget τ m with
  | .row t xs=>bif Nat.beq (lenL t xs) 0 then amb (k true) (k false) else k false
  | .frz t xs=>bif Nat.beq (lenL t xs) 0 then amb (k true) (k false) else k false
  | _=>none
 | _=>none
def isNilC:Operand->Bool
 | .const (.slice none 0 0)=>true
 | _=>false
noncomputable def aopX (ops:Op) (type:TypeId) (fr:Fr) (m:Mem) (N:Nat) (k kp:AV->Mem->Nat->Option R):Option R :=
 match ops with
 | .binOp .eql t x y u=>bif isNilC y then match tget t C.tb with
  | some i=>bif Nat.beq i.kind 2 then eqNilA m (fun b=>k (.d .bool b) m N) (ev fr x) else none
  | none=>none else aop C (.binOp .eql t x y u) type fr m N k kp
 | .binOp .neq t x y u=>bif isNilC y then match tget t C.tb with
  | some i=>bif Nat.beq i.kind 2 then eqNilA m (fun b=>k (.d .bool (!b)) m N) (ev fr x) else none
  | none=>none else aop C (.binOp .neq t x y u) type fr m N k kp
 | o=>aop C o type fr m N k kp
def Y8f (ops:Array Oper) (j:Nat):Option Nat:=(ops[j]?).bind (·.dst)
noncomputable def aops (all:Array Oper):List Oper->Fr->Mem->Nat->(Fr->Mem->Nat->Option R)->(Ex->Fr->Mem->Nat->Option R)->Option R
 | [],fr,m,N,k,kx=>k fr m N
 | o :: l,fr,m,N,k,kx =>
  match o.guard with
  | none=>aopX C o.op o.type fr m N (fun v m N=>v.force fun v =>
    match o.dst with
    | some d=>bif Nat.blt d C.nt then aops all l ((d,v) :: fr) m N k kx else none
    | none=>aops all l fr m N k kx) (fun v m N=>kx (.panic v) fr m N)
  | some (j,want)=>match Y8f all j with
   | some gs =>
    let go:Fr->Option R:=fun fr=>aopX C o.op o.type fr m N (fun v m N=>v.force fun v =>
     match o.dst with
     | some d=>bif Nat.blt d C.nt then aops all l ((d,v) :: fr) m N k kx else none
     | none=>aops all l fr m N k kx) (fun v m N=>kx (.panic v) fr m N)
    let skip:Fr->Option R:=fun fr=>match o.dst with
     | some d=>bif Nat.blt d C.nt then aops all l ((d,.tu .nil) :: fr) m N k kx else none
     | none=>aops all l fr m N k kx
    bif Nat.blt gs C.nt then match fget gs fr with
    | .d .bool b=>cond b (cond want (go ((gs,.d .bool true) :: fr)) (skip ((gs,.d .bool true) :: fr))) (cond want (skip ((gs,.d .bool false) :: fr)) (go ((gs,.d .bool false) :: fr)))
    | .tu .nil=>skip fr
    | _=>none else none
   | none=>none
def opTs:Op->List Operand
 | .move x | .assign x | .box _ x | .load _ x | .nilCheck x | .unOp _ _ x | .convert _ _ x | .sliceToArrayPointer _ x | .makeInterface _ x
 | .fieldAddr _ x _ | .field _ x _ | .entry x | .typeAssert x _ _ _ | .extract x _ | .panic x=>[x]
 | .pick c a b=>[c,a,b]
 | .build _ ps | .buildSlice _ _ ps=>ps.toList.map (·.2)
 | .store _ a v | .binOp _ _ a v _ | .makeSlice _ a v | .indexAddr _ a v | .index _ a v | .lookup _ a v _ | .mapEntry _ a v=>[a,v]
 | .makeFunc _ first cap=>first.toList++cap.toList
 | .makeMap _ (some r)=>[r]
 | .slice _ x l h m=>x :: l.toList++h.toList++m.toList
 | .mapUpdate _ m k v | .entryStore _ m k v | .insert _ m k v=>[m,k,v]
 | .call c=>match c.callee with
  | .value f=>f :: c.args.toList
  | _=>c.args.toList
 | _=>[]
def tmpsOf:List Operand->List Nat
 | []=>[]
 | .tmp t :: l=>t :: tmpsOf l
 | _ :: l=>tmpsOf l
def AV.toksA:AV->List Nat
 | .sl τ=>[τ]
 | .vw τ _ _ _=>[τ]
 | .va τ _ _ _=>[τ]
 | .ptr τ _=>[τ]
 | .mp τ=>[τ]
 | .yl τ=>[τ]
 | .pr a b=>a.toksA++b.toksA
 | .one a=>a.toksA
 | .fn _ a b=>a.toksA++b.toksA
 | .ifc _ v=>v.toksA
 | .tu v=>v.toksA
 | .cons a b=>a.toksA++b.toksA
 | _=>[]
def Blk.toksA:Blk->List Nat
 | .var v=>v.toksA
 | .lp _ _ v _=>v.toksA
 | .fm _ v=>v.toksA
 | .mo _ _ _ (some (σ,_))=>[σ]
 | _=>[]
def memN (n:Nat):List Nat->Bool
 | []=>false
 | a :: l=>Nat.beq a n || memN n l
def reach (m:Mem):Nat->List Nat->List Nat->List Nat
 | 0,_,acc=>acc
 | _+1,[],acc=>acc
 | f+1,τ :: l,acc=>bif memN τ acc then reach m f l acc else reach m f ((mget τ m).toksA++l) (τ :: acc)
def Y7l:Fr->List Nat
 | []=>[]
 | (_,v) :: l=>v.toksA++Y7l l
def opS (o:Op) (f:Fr) (m:Mem):List Nat:=match o with
 | .load _ _=>Y7l f
 | .store _ _ _=>Y7l f
 | .indexAddr _ _ _=>Y7l f
 | .fieldAddr _ _ _=>[]
 | .field _ _ _=>[]
 | .move _=>[]
 | .assign _=>[]
 | .nilCheck _=>[]
 | _=>reach m 1000 (Y7l f) []
def restr (S:List Nat):Mem->Mem
 | []=>[]
 | (n,B) :: m=>bif memN n S then (n,B) :: restr S m else restr S m
def rfr (fr:Fr):List Nat->Fr
 | []=>[]
 | t :: l=>(t,fget t fr) :: rfr fr l
def frToks:Fr->List Nat
 | []=>[]
 | (_,v) :: l=>v.toksA++frToks l
def keys:Mem->List Nat
 | []=>[]
 | (n,_) :: m=>n :: keys m
def ltAll (N:Nat):List Nat->Bool
 | []=>true
 | a :: l=>Nat.blt a N && ltAll N l
def memLt (N:Nat):Mem->Bool
 | []=>true
 | (n,B) :: m=>Nat.blt n N && (ltAll N B.toksA && memLt N m)
def disj:List Nat->List Nat->Bool
 | [],_=>true
 | a :: l,m=>!memN a m && disj l m
def tbit (m i:Nat):Bool:=Nat.beq (Nat.land (Nat.shiftRight m i) 1) 1
def Y2k (e:Edge):Bool:=match e.ground with
 | .textOnly _=>false
 | .gcOnly _=>false
 | _=>true
def Y5r (ms:List Nat):List Edge->Nat
 | []=>0
 | e :: l=>bif Y2k e then Nat.lor (Nat.lor (Nat.shiftLeft 1 e.on) (getAt 0 ms e.on)) (Y5r ms l) else Y5r ms l
def masks:List Oper->List Nat->List Nat
 | [],ms=>ms
 | o :: l,ms=>masks l (ms++[Y5r ms o.after.toList])
def dstIs (t:Nat):Option Nat->Bool
 | some d=>Nat.beq d t
 | none=>false
def Yal (ms:List Nat) (i mask t:Nat):List Oper->Nat->Bool
 | [],_=>true
 | o :: l,j=>(bif dstIs t o.dst then (tbit mask j && Nat.blt j i) || ((tbit (getAt 0 ms j) i && Nat.blt i j) || Nat.beq j i) else true) && Yal ms i mask t l (j+1)
def Yaj (ms:List Nat) (all:List Oper) (i mask:Nat):List Nat->Bool
 | []=>true
 | t :: l=>Yal ms i mask t all 0 && Yaj ms all i mask l
def Y5u (i:Nat):List Edge->Bool
 | []=>true
 | e :: l=>(bif Y2k e then Nat.blt e.on i else true) && Y5u i l
def dstNew (d:Nat):List Oper->Nat->Bool
 | _,0=>true
 | [],_=>true
 | o :: l,i+1=>!dstIs d o.dst && dstNew d l i
def Y8e (ms:List Nat) (all:Array Oper) (i mask:Nat):Option (Nat × Bool)->Bool
 | none=>true
 | some (j,_)=>match Y8f all j with
  | some gs=>Yal ms i mask gs all.toList 0
  | none=>false
def sdOK (all:Array Oper) (ms:List Nat):List Oper->Nat->Bool
 | [],_=>true
 | o :: l,i=>Nat.beq (getAt 0 ms i) (Y5r ms o.after.toList) && (Y5u i o.after.toList && (Yaj ms all.toList i (getAt 0 ms i) (tmpsOf (opTs o.op)) && (Y8e ms all i (getAt 0 ms i) o.guard &&
   ((match o.dst with | some d=>dstNew d all.toList i | none=>true) && sdOK all ms l (i+1)))))
def nilL:List Nat->Bool
 | []=>true
 | _=>false
def Y5l (t:Nat):List Oper->Nat->Nat->Nat->Bool
 | [],_,_,_=>true
 | o :: l,p,i,j=>(bif Nat.ble i p && Nat.blt p j then !dstIs t o.dst else true) && Y5l t l (p+1) i j
def Ycv:Option (Nat × Bool)->Bool
 | none=>true
 | some _=>false
def opAt:List Oper->Nat->Option Oper
 | [],_=>none
 | o :: _,0=>some o
 | _ :: l,n+1=>opAt l n
def exOK (all:Array Oper) (i j:Nat):Bool:=match opAt all.toList i,opAt all.toList j with
 | some a,some b=>match a.op,b.op with
  | .lookup t (.tmp x) (.tmp y) ok,.mapEntry t' (.tmp x') (.tmp y')=>!ok && (Nat.beq t t' && (Nat.beq x x' && (Nat.beq y y' && (Ycv a.guard && (Ycv b.guard && (Y5l x all.toList 0 i j && Y5l y all.toList 0 i j))))))
  | _,_=>false
 | _,_=>false
def clash (all:Array Oper) (i mask:Nat) (S W:List Nat):Bool->List (Nat × List Nat × List Nat)->Bool
 | _,[]=>true
 | q,(j,S',W') :: l=>(bif tbit mask j then true else (disj W S' && (disj W' S && disj W W')) || (q && (nilL W' && exOK all j i))) && clash all i mask S W (q && nilL W') l
def Y7i {A:Type}:List Nat->(List Nat->A)->A
 | [],k=>k []
 | a :: l,k=>Y7i l fun l=>k (a :: l)
def Y7g {A:Type}:Mem->(Mem->A)->A
 | [],k=>k []
 | (n,B) :: l,k=>Y7g l fun l=>k ((n,B) :: l)
def appMem {A:Type}:Mem->Mem->(Mem->A)->A
 | [],m,k=>k m
 | p :: l,m,k=>appMem l m fun r=>k (p :: r)
theorem Y7j {A:Type}:∀ (l:List Nat) (k:List Nat->A),Y7i l k=k l
 | [],k=>rfl
 | a :: l,k=>by rw[Y7i,Y7j l]
theorem Y7h {A:Type}:∀ (l:Mem) (k:Mem->A),Y7g l k=k l
 | [],k=>rfl
 | (n,B) :: l,k=>by rw[Y7g,Y7h l]
theorem Y1s {A:Type}:∀ (d m:Mem) (k:Mem->A),appMem d m k=k (d++m)
 | [],m,k=>rfl
 | p :: l,m,k=>by rw[appMem,Y1s l]; rfl
def mkget (id:Nat):List (Nat × List Nat)->Option (List Nat)
 | []=>none
 | (n,l) :: r=>bif Nat.beq n id then some l else mkget id r
def maskOf (o:Option (List Nat)) (ms:List Nat) (k:List Nat->Option R):Option R:=match o with
 | some ms'=>bif beqNs ms' ms then k ms' else none
 | none=>k ms
def aopsD (all:Array Oper) (ms:List Nat):List Oper->Nat->Fr->Mem->Nat->List (Nat × List Nat × List Nat)->(Fr->Mem->Nat->Option R)->Option R
 | [],_,fr,m,N,_,k=>k fr m N
 | o :: l,i,fr,m,N,tr,k =>
  let put:AV->Fr->Mem->Nat->List Nat->List Nat->Option R:=fun v fr m N S W=>match o.dst with
   | some d=>bif Nat.blt d C.nt then aopsD all ms l (i+1) ((d,v) :: fr) m N ((i,S,W) :: tr) k else none
   | none=>aopsD all ms l (i+1) fr m N ((i,S,W) :: tr) k
  let go1:Fr->Fr->List Nat->Mem->Option R:=fun fr f1 S m1 =>
   bif ltAll N (frToks f1) && memLt N m1 then aop C o.op o.type f1 m1 N (fun v m' N'=>v.force fun v=>Y7g (m'.take (m'.length - m1.length)) fun δ=>Y7i (keys δ) fun W =>
    bif Nat.ble N N' && clash all i (getAt 0 ms i) S W true tr then
     appMem δ m fun mm=>put v fr mm N' S W else none) (fun _ _ _=>none) else none
  let go:Fr->Option R:=fun fr=>Y7i (opS o.op (rfr fr (tmpsOf (opTs o.op))) m) fun S=>go1 fr (rfr fr (tmpsOf (opTs o.op))) S (restr S m)
  let skip:Fr->Option R:=fun fr=>put (.tu .nil) fr m N [] []
  match o.guard with
  | none=>go fr
  | some (j,want)=>match Y8f all j with
   | some gs =>
    bif Nat.blt gs C.nt then match fget gs fr with
    | .d .bool b=>cond b (cond want (go ((gs,.d .bool true) :: fr)) (skip ((gs,.d .bool true) :: fr))) (cond want (skip ((gs,.d .bool false) :: fr)) (go ((gs,.d .bool false) :: fr)))
    | .tu .nil=>skip fr
    | _=>none else none
   | none=>none
def hzToks (id:Nat) (fr:Fr):List (Nat × List Nat)->List Nat
 | []=>[]
 | (n,l) :: r=>bif Nat.beq n id then toksL (l.map fun t=>fget t fr) else hzToks id fr r
def rown1 (n:Nat) (fr:Fr) (m:Mem) (N:Nat):Fr × Mem × Nat:=match fget n fr with
 | .vw τ lo q sz=>match mget τ m with
  | .row t xs=>bif Nat.beq sz t.size then ((n,.sl N) :: fr,(N,.row t (cut xs lo q)) :: (τ,.gone) :: m,N+1) else (fr,m,N)
  | _=>(fr,m,N)
 | _=>(fr,m,N)
def rownS:List Nat->Fr->Mem->Nat->Fr × Mem × Nat
 | [],fr,m,N=>(fr,m,N)
 | n :: l,fr,m,N=>match rown1 n fr m N with
  | (fr',m',N')=>rownS l fr' m' N'
def rwOf (id:Nat):List (Nat × List Nat)->List Nat
 | []=>[]
 | (n,l) :: r=>bif Nat.beq n id then l else rwOf id r
def rownK {R:Type} (l:List Nat) (k:Fr->Mem->Nat->Option R) (fr:Fr) (m:Mem) (N:Nat):Option R:=match rownS l fr m N with
 | (fr',m',N')=>k fr' m' N'
def onTmp (fr:Fr) (b:Bool):Operand->Fr
 | .tmp t=>bif Nat.blt t C.nt then (t,.d .bool b) :: fr else fr
 | _=>fr
def Code.firstId:Code->Nat
 | .region id _ _=>id+1
 | .seq a b=>match Code.firstId a with
  | 0=>Code.firstId b
  | n+1=>n+1
 | .cond _ a b=>match Code.firstId a with
  | 0=>Code.firstId b
  | n+1=>n+1
 | .block _ a=>Code.firstId a
 | .loop a=>Code.firstId a
 | .scope a=>Code.firstId a
 | _=>0
def sumget (t n:Nat):List (Nat × Nat × CSpec)->Option CSpec
 | []=>none
 | (t',n',s) :: l=>bif Nat.beq t t' && Nat.beq n n' then some s else sumget t n l
noncomputable def exec:Code->Fr->Mem->Nat->{R:Type}->(Ex->Fr->Mem->Nat->Option R)->Option R
 | .skip,fr,m,N,_,k=>k .normal fr m N
 | .region id ops dr,fr,m,N,_,k=>bif dr then maskOf (mkget id C.mks) (masks ops.toList []) (fun ms=>bif sdOK ops ms ops.toList 0 then aopsD C ops ms ops.toList 0 fr (frzL (hzToks id fr C.hz) m) N [] (rownK (rwOf id C.rw) (k .normal)) else none) else aops C ops ops.toList fr m N (rownK (rwOf id C.rw) (k .normal)) k
 | .seq a b,fr,m,N,_,k=>exec a fr m N fun e fr m N=>match e with
  | .normal=>exec b fr m N k
  | e=>k e fr m N
 | .cond c x y,fr,m,N,_,k=>match sumget 1 (Code.firstId (.cond c x y)) C.sum with
  | some s=>s.run fr m N k
  | none=>match ev fr c with
   | .d .bool b=>cond b (exec x (onTmp C fr true c) m N k) (exec y (onTmp C fr false c) m N k)
   | _=>none
 | .block id c,fr,m,N,_,k=>exec c fr m N fun e fr m N=>match e with
  | .exit i=>bif Nat.beq i id then k .normal fr m N else k (.exit i) fr m N
  | e=>k e fr m N
 | .loop c,fr,m,N,_,k=>match sumget 0 (Code.firstId c) C.sum with
  | some s=>s.run fr m N k
  | none=>none
 | .scope c,fr,m,N,_,k=>match sumget 2 (Code.firstId c) C.sum with
  | some s=>s.run fr m N k
  | none=>exec c fr m N fun e fr m N=>match e with
   | .goto _=>none
   | e=>k e fr m N
 | .exit id,fr,m,N,_,k=>k (.exit id) fr m N
 | .label _,fr,m,N,_,k=>k .normal fr m N
 | .goto l,fr,m,N,_,k=>k (.goto l) fr m N
 | .ret,fr,m,N,_,k=>k .ret fr m N
 | .rangeFunc _ _ a _,fr,m,N,_,k=>match sumget 3 (Code.firstId a) C.sum with
  | some s=>s.run fr m N k
  | none=>none
 | .refuse _,_,_,_,_,_=>none
end
end Go.Proofs.YtifbgkikkiallaaGreat.VX

