/- Laid for the law MachineApart. -/
import Derived.Test.YthdlpkdojipfhaaGreatMachineApartP1
set_option linter.unusedVariables false
set_option linter.unusedSimpArgs false
namespace Go.Proofs.YthdlpkdojipfhaaGreat.VX.VxM_M
open Go.Proofs
theorem Y51 {α:Type} (l:List α) (p:α→Bool) {n:Nat} (h:n < l.length):(l.take (n+1)).filter p=if p l[n]=true then (l.take n).filter p++[l[n]] else (l.take n).filter p:=by
 rw [← List.take_append_getElem h,List.filter_append]
 by_cases q:p l[n]=true
 ·rw [if_pos q,List.filter_cons_of_pos q]; rfl
 ·rw [if_neg q,List.filter_cons_of_neg q]; simp
section
variable {s:MS}
theorem Y1c {cs:List Ch} (h:GI s (-1)) (v:Int) (ps:List Int) (n i:Int) :
  loop Z8p (v,s.chs,ps,n,i,s.chs,(s.chs.length:Int),0,s.w cs,[])=some (.inr (v,s.chs,ps,n,i,s.w cs,s.chs.filter fun c=>decide (easyI (s.instr c.1)))):=by
 have hcl:=Y2v h
 have key:=Y88 (f:=Z8p) s.chs.length (fun k=>(v,s.chs,ps,n,i,s.chs,(s.chs.length:Int),(k:Int),s.w cs,(s.chs.take k).filter fun c=>decide (easyI (s.instr c.1)))) (.inr (v,s.chs,ps,n,i,s.w cs,s.chs.filter fun c=>decide (easyI (s.instr c.1)))) (fun k hk=>by
  have hz:getAt ((0:Int),(0:Int)) s.chs (toN (k:Int))=s.chs[k]:=getAtL _ hk
  have hm:=List.getElem_mem hk
  have hft:=Y51 s.chs (fun c=>decide (easyI (s.instr c.1))) hk
  have hlen:((s.chs.take k).filter fun c=>decide (easyI (s.instr c.1))).length ≤ k:=by
   have:=List.length_filter_le (fun c=>decide (easyI (s.instr c.1))) (s.chs.take k)
   rw [List.length_take] at this; omega
  rw [hft]
  unfold Z8p
  simp only [hz,gAt_eq,blk_eq,inz_eq]
  generalize s.chs[k]=c at *
  generalize (s.chs.take k).filter (fun c=>decide (easyI (s.instr c.1)))=acc at *
  obtain ⟨_,r,_,_⟩:=Y2w h hm
  have hok:=h.gok r.hg
  have hpc:=r.pc h
  have h1:0 ≤ (gAt s.gs c.1).1:=hok.1
  have h2:(gAt s.gs c.1).1 < s.p.2.2.2.2.2.length:=hok.2.1
  have h3:0 ≤ (gAt s.gs c.1).2.1:=hpc.1
  have h4:(gAt s.gs c.1).2.1 < (blk s.p (gAt s.gs c.1).1).length:=by have:=hpc.2.1; show (s.g c.1).2.1 < ((blk s.p (s.g c.1).1).length:Int); omega
  have hg0:=r.hg.1
  have hg1:=r.hg.2
  have hop:(blk s.p (gAt s.gs c.1).1).getD (gAt s.gs c.1).2.1.toNat zIn=s.instr c.1:=rfl
  rw [bif_t (decide_eq_true (by omega)),bif_t (Y6p hk),bif_f (decide_eq_false (by omega)),bif_f (decide_eq_false (by omega)),bif_t (inbL.2 r.hg),bif_f (decide_eq_false (by omega)),bif_f (decide_eq_false (by omega)),bif_f (decide_eq_false (by omega)),bif_t (inbL.2 ⟨h1,h2⟩),bif_f (decide_eq_false (by omega)),bif_t (inbL.2 ⟨h1,h2⟩),bif_t (inbL.2 ⟨h3,h4⟩),hop,wrapI (n:=(k:Int)+1) (by omega) (by omega)]
  by_cases e10:(s.instr c.1).1=10
  ·rw [bif_t (beq_iff_eq.2 e10),bif_t (Y5f.2 (by simp; omega)),if_pos (decide_eq_true (.inl e10))]; rfl
  rw [bif_f (beq_eq_false_iff_ne.2 e10)]
  by_cases e11:(s.instr c.1).1=11
  ·rw [bif_t (beq_iff_eq.2 e11),bif_t (Y5f.2 (by simp; omega)),if_pos (decide_eq_true (.inr (.inl e11)))]; rfl
  rw [bif_f (beq_eq_false_iff_ne.2 e11)]
  by_cases e0:(s.instr c.1).1=0
  ·rw [bif_t (beq_iff_eq.2 e0),bif_t (Y5f.2 (by simp; omega)),if_pos (decide_eq_true (.inr (.inr e0)))]; rfl
  rw [bif_f (beq_eq_false_iff_ne.2 e0),if_neg (fun q=>by
   have q:=of_decide_eq_true q
   rcases q with q | q | q
   ·exact e10 q
   ·exact e11 q
   ·exact e0 q)]
  rfl) (by
  unfold Z8p
  simp only
  rw [bif_f (decide_eq_false (by omega)),List.take_length]) 0 (Nat.zero_le _)
 exact key
end
theorem machineApart_law (p:Pg) (v:List Int):F_plaitlaw12_MachineApart (p,v)=some true:=by
 have hvl:(v.take 80).length ≤ 80:=by simp; omega
 have hcv:=cutm v 80
 unfold F_plaitlaw12_MachineApart
 simp only
 rw [few_x]
 simp only [Option.bind_some]
 have hsm:=Y4u p
 generalize fewP p=q at *
 obtain ⟨cs0,h1,h2⟩:=new_x q hsm
 rw [h2]
 simp only [Option.bind_some]
 by_cases hq:rightP q
 case neg =>
  rw [if_neg hq,bif_t (by rfl),Y13]
  rfl
 have hR:=(Yca q).1 hq
 have g0:=Y9t hR (h1 hR)
 rw [if_pos hq,bif_f (by rfl),bif_t (sub3L.2 ⟨by omega,by omega,by omega⟩),show cut v (toN 0) (toN (Min.min ((v.length:Nat):Int) 80) - toN 0)=v.take 80 from hcv]
 generalize v.take 80=v at *
 have key:=Y8d (f:=Z8r) (fun x=>∃ (n:Nat) (s:MS) (cs:List Ch),n ≤ v.length∧GoodN n s cs∧x=(v,(v.length:Int),(n:Int),s.w cs))
  (fun y=>y=.inl true ∨ y=.inr ()) (fun x=>(v.length - x.2.2.1).toNat) (by
   rintro x ⟨n,s,cs,hn,hg,rfl⟩
   by_cases hlt:n < v.length
   case neg =>
    right
    refine ⟨_,?_,.inr rfl⟩
    unfold Z8r
    simp only
    rw [bif_f (decide_eq_false (by omega))]
   have hcl:=Y2v hg.gi
   have hw:IntKind.wrap .i64 ((n:Int)+1)=((n+1:Nat):Int):=wrapI (by omega) (by omega)
   have hsz:=hg.gi.rp.sizes
   unfold Ydt at hsz
   simp only [Bool.and_eq_true,decide_eq_true_eq,Y6n] at hsz
   have hgl:=hg.gi.gl
   unfold Z8r
   simp only
   rw [bif_t (decide_eq_true (by omega)),bif_t (Y6p hlt),Y2t hg.rel hg.gi hg.ev.1]
   simp only [Option.bind_some]
   by_cases hne:s.chs=[]
   ·right
    refine ⟨_,?_,.inl rfl⟩
    rw [hne,bif_t (by rfl),Y13]
    rfl
   have hl0:¬ s.chs.length=0:=fun e=>hne (List.eq_nil_of_length_eq_zero e)
   rw [bif_f (by simp; omega),bif_f (decide_eq_false (by omega)),bif_f (decide_eq_false (by omega)),Y1c hg.gi]
   simp only [Option.bind_some]
   obtain ⟨c,hc,ep⟩:=pick_x s.chs (getAt 0 v (toN (n:Int))) hne (by omega)
   obtain ⟨csc,gc,ec⟩:=hg.step (by omega) hc
   have hnd:=Y45 hg.gi
   have hmem:∀ c ∈ s.chs.filter (fun c=>decide (easyI (s.instr c.1))),c ∈ s.chs∧easyI (s.instr c.1):=fun c hc=>⟨(List.mem_filter.1 hc).1,of_decide_eq_true (List.mem_filter.1 hc).2⟩
   generalize s.chs.filter (fun c=>decide (easyI (s.instr c.1)))=two at *
   by_cases h2:2 ≤ two.length
   ·obtain ⟨a,b,l,rfl⟩:∃ a b l,two=a :: b :: l:=by
     match two,h2 with
     | a :: b :: l,_=>exact ⟨a,b,l,rfl⟩
    obtain ⟨ma,ea⟩:=hmem a (List.mem_cons_self ..)
    obtain ⟨mb,eb⟩:=hmem b (List.mem_cons_of_mem _ (List.mem_cons_self ..))
    have hab:a.1 ≠ b.1:=by
     have:=(List.nodup_cons.1 hnd).1
     intro e
     exact this (by show a.1 ∈ b.1 :: l.map (fun c=>c.1); rw [e]; exact List.mem_cons_self ..)
    obtain ⟨hst,ra,_,_⟩:=Y2w hg.gi ma
    obtain ⟨_,rb,_,_⟩:=Y2w hg.gi mb
    have a2:=Y2u hg.gi ma ea
    have b2:=Y2u hg.gi mb eb
    obtain ⟨a1,a3⟩:=a
    obtain ⟨b1,b3⟩:=b
    simp only at a2 b2 ea eb ra rb hab
    subst a2 b2
    obtain ⟨t1,t2,t3,t4,t5⟩:=ez_two hst ra rb hab ea eb
    obtain ⟨u1,u2,u3,_,_⟩:=ez_two hst rb ra (Ne.symm hab) eb ea
    obtain ⟨csa,ga,fa⟩:=hg.step (by omega) ma
    obtain ⟨csb,gb,fb⟩:=hg.step (by omega) mb
    obtain ⟨csab,gab,fab⟩:=ga.step (by omega) t1
    obtain ⟨csba,gba,fba⟩:=gb.step (by omega) u1
    have hlen:((a1,-1) :: (b1,-1) :: l:List Cho).length=l.length+2:=rfl
    rw [bif_t (decide_eq_true (by omega)),bif_t (inbL.2 (by omega)),show getAt ((0:Int),(0:Int)) ((a1,-1) :: (b1,-1) :: l) (toN 0)=(a1,-1) from rfl,fa]
    simp only [Option.bind_some]
    rw [bif_t (inbL.2 (by omega)),show getAt ((0:Int),(0:Int)) ((a1,-1) :: (b1,-1) :: l) (toN 1)=(b1,-1) from rfl,fb]
    simp only [Option.bind_some]
    rw [bif_t (inbL.2 (by omega)),fab]
    simp only [Option.bind_some]
    rw [bif_t (inbL.2 (by omega)),fba]
    simp only [Option.bind_some]
    have hsame:Z4l (((s.step (a1,-1)).step (b1,-1)).w csab,((s.step (b1,-1)).step (a1,-1)).w csba)=some true:=by
     rw [← t4 csba]
     exact Y6f gab.gi gab.rel (by rw [t5]; exact gba.rel)
    have hevl:∀ g i,(evE g i).length ≤ 1:=fun g i=>by unfold evE; split <;> simp
    rw [bif_f (by rfl),bif_f (by rfl),bif_f (by rfl),bif_f (by rfl),hsame]
    simp only [Option.bind_some]
    rw [bif_f (by rfl),t2,u3,Y4l _ (by have:=hevl a1 (s.instr a1); omega)]
    simp only [Option.bind_some]
    rw [bif_f (by rfl),u2,t3,Y4l _ (by have:=hevl b1 (s.instr b1); omega)]
    simp only [Option.bind_some]
    rw [bif_f (by rfl),ep]
    simp only [Option.bind_some]
    rw [ec]
    simp only [Option.bind_some]
    rw [bif_f (by rfl),hw]
    left
    exact ⟨_,rfl,⟨n+1,s.step c,csc,hlt,gc,rfl⟩,by simp only; omega⟩
   ·rw [bif_f (decide_eq_false (by omega)),ep]
    simp only [Option.bind_some]
    rw [ec]
    simp only [Option.bind_some]
    rw [bif_f (by rfl),hw]
    left
    exact ⟨_,rfl,⟨n+1,s.step c,csc,hlt,gc,rfl⟩,by simp only; omega⟩) (v,(v.length:Int),((0:Nat):Int),(MS.new q).w cs0) ⟨0,MS.new q,cs0,Nat.zero_le _,g0,rfl⟩
 obtain ⟨y,e,hy⟩:=key
 rw [show loop Z8r (v,(v.length:Int),0,(MS.new q).w cs0)=_ from e]
 rcases hy with hy | hy <;> subst hy
 ·rfl
 ·simp only [Option.bind_some]
  rw [Y13]; rfl
end Go.Proofs.YthdlpkdojipfhaaGreat.VX.VxM_M

