/- The engine, part K: contracts of functions by the shapes of what they take and leave. -/
import Derived.Test.YtkeolcgggondnaaVx14
set_option linter.unusedVariables false
set_option linter.unusedSimpArgs false
namespace Go.Proofs.Ytkeolcgggondnaa.VX
def AV.ren (ρ : Nat → Nat) : AV → AV
  | .d t x => .d t x
  | .pr a b => .pr (a.ren ρ) (b.ren ρ)
  | .one a => .one (a.ren ρ)
  | .nl => .nl
  | .sl τ => .sl (ρ τ)
  | .vw τ lo n sz => .vw (ρ τ) lo n sz
  | .ptr τ p => .ptr (ρ τ) p
  | .nilp => .nilp
  | .pv t x => .pv t x
  | .mp τ => .mp (ρ τ)
  | .nilm => .nilm
  | .fn f a b => .fn f (a.ren ρ) (b.ren ρ)
  | .nilf => .nilf
  | .ifc t v => .ifc t (v.ren ρ)
  | .yl τ => .yl (ρ τ)
  | .nili => .nili
  | .tu v => .tu (v.ren ρ)
  | .nil => .nil
  | .cons a b => .cons (a.ren ρ) (b.ren ρ)
  | .dead => .dead
def Blk.ren (ρ : Nat → Nat) : Blk → Blk
  | .var v => .var (v.ren ρ)
  | .lp id sl v t => .lp id sl (v.ren ρ) t
  | .fm ks v => .fm ks (v.ren ρ)
  | .row t xs => .row t xs
  | .frz t xs => .frz t xs
  | .mp k v m => .mp k v m
  | .gone => .gone
def renMem (ρ : Nat → Nat) : Mem → Mem
  | [] => []
  | (j, B) :: l => (ρ j, B.ren ρ) :: renMem ρ l
def rho (p : Nat) (as : Asg) (N j : Nat) : Nat := bif Nat.blt j p then (match alook j as with
  | some (some τ) => τ
  | _ => N + j) else N + j
/-- Rows that are handed over are the callee's. -/
def dropA (as : Asg) : Nat → Nat → Mem
  | _, 0 => []
  | j, n + 1 => match alook j as with
    | some (some τ) => (τ, .gone) :: dropA as (j + 1) n
    | _ => dropA as (j + 1) n
def outAV (fr : Fr) : AV := match fr with
  | [(_, v)] => v
  | fr => .tu (avList (fr.map fun p => p.2))
/-- A function that takes what has a shape and leaves what has another one. -/
def Spec.shp (sh ro : Shape) (F : HL sh.ts → Option (HL ro.ts)) : Spec where
  run args m N k kp := bif Nat.beq args.length sh.sl.length then match sh.getA (initFr 0 args) m with
    | some (x, as) => (F x).bind fun y => k ((outAV (ro.fr y)).ren (rho ro.pin as N)) (renMem (rho ro.pin as N) (ro.mem y) ++ (dropA as ro.pin (sh.bl.length - ro.pin) ++ frzL (sh.fzs (initFr 0 args) m) m)) (N + ro.bl.length)
    | none => none else none
def retS (C : Ctx) (rv : List ResultVar) (ro : Shape) : Ex → Fr → Mem → Nat → Option (HL ro.ts)
  | .normal, fr, m, _ => match resVals C fr m rv with
    | some l => bif Nat.beq l.length ro.sl.length then ro.get (initFr 0 l) m else none
    | none => none
  | .ret, fr, m, _ => match resVals C fr m rv with
    | some l => bif Nat.beq l.length ro.sl.length then ro.get (initFr 0 l) m else none
    | none => none
  | _, _, _, _ => none
def seqK : Nat → List (Nat × Pat) → Bool
  | _, [] => true
  | n, (k, _) :: l => Nat.beq k n && seqK (n + 1) l
section
variable {ρ : Nat → Nat}
theorem ren_agg : ∀ (v : AV), (v.ren ρ).isAgg = v.isAgg
  | .d t x => rfl | .pr a b => rfl | .one a => rfl | .nl => rfl | .sl τ => rfl | .vw _ _ _ _ => rfl | .ptr _ _ => rfl | .nilp => rfl | .pv _ _ => rfl | .mp _ => rfl | .nilm => rfl
  | .fn _ _ _ => rfl | .nilf => rfl | .ifc _ _ => rfl | .yl _ => rfl | .nili => rfl | .tu _ => rfl | .nil => rfl | .cons _ _ => rfl | .dead => rfl
theorem ren_sto : ∀ (v : AV), (v.ren ρ).sto = v.sto
  | .pr a b => by simp only [AV.ren, AV.sto, ren_sto a, ren_sto b]
  | .one a => by simp only [AV.ren, AV.sto, ren_sto a]
  | .d t x => rfl | .nl => rfl | .sl τ => rfl | .vw _ _ _ _ => rfl | .ptr _ _ => rfl | .nilp => rfl | .pv _ _ => rfl | .mp _ => rfl | .nilm => rfl
  | .fn _ _ _ => rfl | .nilf => rfl | .ifc _ _ => rfl | .yl _ => rfl | .nili => rfl | .tu _ => rfl | .nil => rfl | .cons _ _ => rfl | .dead => rfl
theorem ren_live (B : Blk) : (B.ren ρ).live = B.live := by cases B <;> rfl
variable {g g' : G} {w : World} {ok ok' : Nat → Prop} (hρ : ∀ j, g.dom j → g'.dom (ρ j) ∧ g'.loc (ρ j) = g.loc j) (hH : Holds w ok w ok')
include hρ hH
mutual
theorem RC_ren : ∀ (v : AV) (cs : List Value), RC g w ok v cs → RC g' w ok' (v.ren ρ) cs
  | .d t x, cs, h1 => Rd_mono hH t x cs h1
  | .pr a b, cs, ⟨c1, c2, e, h1, h2⟩ => ⟨c1, c2, e, RC_ren a c1 h1, RC_ren b c2 h2⟩
  | .one a, cs, h1 => RC_ren a cs h1
  | .nl, cs, h1 => h1
  | .sl τ, cs, ⟨h1, h2⟩ => ⟨(hρ τ h1).1, by rw [(hρ τ h1).2]; exact h2⟩
  | .vw τ lo n sz, cs, ⟨h1, v, h2, h3⟩ => ⟨(hρ τ h1).1, v, h2, by rw [(hρ τ h1).2]; exact h3⟩
  | .ptr τ p, cs, ⟨h1, h2, h3⟩ => ⟨(hρ τ h1).1, by rw [(hρ τ h1).2]; exact h2, by rw [(hρ τ h1).2]; exact h3⟩
  | .nilp, cs, h1 => h1
  | .pv t x, cs, ⟨ad, cells, e, h1, h2⟩ => ⟨ad, cells, e, Rd_mono hH t x cells h1, Seg_mono hH h2⟩
  | .mp τ, cs, ⟨h1, h2⟩ => ⟨(hρ τ h1).1, by rw [(hρ τ h1).2]; exact h2⟩
  | .nilm, cs, h1 => h1
  | .fn f a b, cs, ⟨fs, ks, h1, h2, e⟩ => ⟨fs, ks, RL_ren a fs h1, RL_ren b ks h2, e⟩
  | .nilf, cs, h1 => h1
  | .ifc t v, cs, ⟨cv, e, h1, h2⟩ => ⟨cv, e, fun ha => let ⟨ds, e, h3⟩ := h1 (by rw [← ren_agg]; exact ha); ⟨ds, e, RC_ren v ds h3⟩, fun ha => RC_ren v [cv] (h2 (by rw [← ren_agg]; exact ha))⟩
  | .nili, cs, h1 => h1
  | .yl τ, cs, ⟨h1, h2⟩ => ⟨(hρ τ h1).1, by rw [(hρ τ h1).2]; exact h2⟩
  | .tu vs, cs, ⟨l, h1, e⟩ => ⟨l, RL_ren vs l h1, e⟩
  | .nil, _, h1 => h1
  | .cons _ _, _, h1 => h1
  | .dead, cs, h1 => h1
theorem RL_ren : ∀ (v : AV) (l : List Value), RL g w ok v l → RL g' w ok' (v.ren ρ) l
  | .nil, l, h1 => have _ := hρ; have _ := hH; h1
  | .cons a b, l, ⟨v, l', e, ⟨h1, h2⟩, h3⟩ => ⟨v, l', e, ⟨fun ha => let ⟨ds, e, h4⟩ := h1 (by rw [← ren_agg]; exact ha); ⟨ds, e, RC_ren a ds h4⟩, fun ha => RC_ren a [v] (h2 (by rw [← ren_agg]; exact ha))⟩, RL_ren b l' h3⟩
  | .d _ _, _, h1 => h1.elim
  | .pr _ _, _, h1 => h1.elim
  | .one _, _, h1 => h1.elim
  | .nl, _, h1 => h1.elim
  | .sl _, _, h1 => h1.elim
  | .vw _ _ _ _, _, h1 => h1.elim
  | .ptr _ _, _, h1 => h1.elim
  | .nilp, _, h1 => h1.elim
  | .pv _ _, _, h1 => h1.elim
  | .mp _, _, h1 => h1.elim
  | .nilm, _, h1 => h1.elim
  | .fn _ _ _, _, h1 => h1.elim
  | .nilf, _, h1 => h1.elim
  | .ifc _ _, _, h1 => h1.elim
  | .nili, _, h1 => h1.elim
  | .yl _, _, h1 => h1.elim
  | .tu _, _, h1 => h1.elim
  | .dead, _, h1 => h1.elim
end
theorem RV_ren {v : AV} {cv : Value} (h : RV g w ok v cv) : RV g' w ok' (v.ren ρ) cv :=
  ⟨fun ha => let ⟨ds, e, h2⟩ := h.1 (by rw [← ren_agg]; exact ha); ⟨ds, e, RC_ren hρ hH v ds h2⟩, fun ha => RC_ren hρ hH v _ (h.2 (by rw [← ren_agg]; exact ha))⟩
theorem BOK_ren (hrt : g'.rt = g.rt) {j : Nat} (hj : g.dom j) {B : Blk} (hB : BOK g w ok j B) : BOK g' w ok' (ρ j) (B.ren ρ) := by
  have hl := (hρ j hj).2
  cases B with
  | var v =>
    obtain ⟨h1, h2, h5, c, e, h3, h4⟩ := hB
    exact ⟨by rw [hl]; exact h1, by rw [ren_sto]; exact h2, by rw [hl]; exact h5, c, e, by rw [hl]; exact h3, RC_ren hρ hH v _ h4⟩
  | row t xs =>
    obtain ⟨h1, h2, h0⟩ := hB
    refine ⟨by rw [hl]; exact h1, by rw [hl]; exact h2, ?_⟩
    rcases h0 with h0 | ⟨h7, c, e, cells, h3, h4, h5, h6⟩
    · left; rw [hl]; exact h0
    · exact .inr ⟨by rw [hl]; exact h7, c, e, cells, by rw [hl]; exact h3, RdL_mono (fun x cs => Rd_mono hH t x cs) _ _ h4, by rw [hl]; exact h5, by rw [hl]; exact h6⟩
  | frz t xs => show Rd _ _ _ _ _; rw [hl]; exact Rd_mono hH _ _ _ hB
  | mp kt vt l =>
    obtain ⟨h4, es, h1, h2, h3⟩ := hB
    exact ⟨by rw [hl]; exact h4, es, by rw [hl]; exact h1, h2, fun i e p he hp => EOK_mono hH (h3 i e p he hp)⟩
  | lp id sl sv tag =>
    obtain ⟨h4, rt, fn, tmps, D, st, pe, vs, h1, h2, h3, h5, h6, h7⟩ := hB
    exact ⟨by rw [hl]; exact h4, rt, fn, tmps, D, st, pe, vs, by rw [hrt]; exact h1, by rw [hl]; exact h2, h3, RL_ren hρ hH sv vs h5, h6, h7⟩
  | fm ks vs =>
    obtain ⟨h4, es, cvs, h1, h2, h3, h5, h6⟩ := hB
    exact ⟨by rw [hl]; exact h4, es, cvs, by rw [hl]; exact h1, h2, h3, RL_ren hρ hH vs cvs h5, h6⟩
  | gone => trivial
end
section dom
variable {g : G} {w : World} {ok : Nat → Prop} {m : Mem}
/-- All numbers that are given are in use. -/
def AsD (g : G) (as : Asg) : Prop := ∀ j τ, alook j as = some (some τ) → g.dom τ
theorem asgn_dom {j : Nat} {v : Option Nat} {as as' : Asg} (h : asgn j v as = some as') (hd : AsD g as) (hv : ∀ τ, v = some τ → g.dom τ) : AsD g as' := by
  unfold asgn at h
  cases hl : alook j as with
  | none =>
    rw [hl] at h; cases h
    intro i τ e
    rw [alook_cons] at e
    split at e
    · exact hv τ (Option.some.inj e)
    · exact hd i τ e
  | some u =>
    rw [hl] at h
    cases (bif_some h).2
    exact hd
theorem mt_dom : ∀ (p : Pat) (v : AV) (as : Asg) (ds : List Dyn) (as' : Asg), p.mt m v as = some (ds, as') → AsD g as → ((∃ cs, RC g w ok v cs) ∨ ∃ l, RL g w ok v l) → AsD g as'
  | .hole t, v, as, ds, as', h, hd, hr => by simp only [Pat.mt] at h; split at h <;> cases h; exact hd
  | .hpv t, v, as, ds, as', h, hd, hr => by
    cases v <;> first | (cases h; done) | skip
    simp only [Pat.mt] at h; split at h <;> cases h; exact hd
  | .pr a b, v, as, ds, as', h, hd, hr => by
    simp only [Pat.mt] at h
    split at h
    · rename_i u u' hs
      have hr2 : (∃ cs, RC g w ok u cs) ∧ ∃ cs, RC g w ok u' cs := by
        rcases hr with ⟨cs, hr⟩ | ⟨l, hr⟩
        · obtain ⟨c1, c2, _, e1, e2⟩ := split_ok hs hr; exact ⟨⟨c1, e1⟩, ⟨c2, e2⟩⟩
        · unfold AV.split at hs; split at hs <;> first | exact hr.elim | cases hs
      split at h
      · rename_i h1
        split at h
        · rename_i h2; cases h
          exact mt_dom b _ _ _ _ h2 (mt_dom a _ _ _ _ h1 hd (.inl hr2.1)) (.inl hr2.2)
        · cases h
      · cases h
    · cases h
  | .one a, v, as, ds, as', h, hd, hr => by
    simp only [Pat.mt] at h
    split at h
    · rename_i u hs
      refine mt_dom a _ _ _ _ h hd ?_
      simp only [AV.sel] at hs
      split at hs
      · cases hs
        rcases hr with ⟨cs, hr⟩ | ⟨l, hr⟩
        · exact .inl ⟨cs, hr⟩
        · exact hr.elim
      · cases hs
        rcases hr with ⟨cs, hr⟩ | ⟨l, hr⟩
        · exact .inl ⟨cs, hr⟩
        · exact hr.elim
      · cases hs
    · cases h
  | .nl, v, as, ds, as', h, hd, hr => by cases v <;> cases h; exact hd
  | .sl j, v, as, ds, as', h, hd, hr => by
    cases v with
    | sl τ =>
      rcases hr with ⟨cs, hr⟩ | ⟨l, hr⟩
      · exact asgn_dom (noneL_ok h).2 hd (fun τ' e => by cases e; exact hr.1)
      · exact hr.elim
    | nl => exact asgn_dom (noneL_ok h).2 hd (fun τ' e => by cases e)
    | _ => cases h
  | .ptr j p, v, as, ds, as', h, hd, hr => by
    cases v with
    | ptr τ q =>
      simp only [Pat.mt] at h
      rcases hr with ⟨cs, hr⟩ | ⟨l, hr⟩
      · exact asgn_dom (noneL_ok (bif_some h).2).2 hd (fun τ' e => by cases e; exact hr.1)
      · exact hr.elim
    | _ => cases h
  | .nilp, v, as, ds, as', h, hd, hr => by cases v <;> cases h; exact hd
  | .mp j, v, as, ds, as', h, hd, hr => by
    cases v with
    | mp τ =>
      rcases hr with ⟨cs, hr⟩ | ⟨l, hr⟩
      · exact asgn_dom (noneL_ok h).2 hd (fun τ' e => by cases e; exact hr.1)
      · exact hr.elim
    | _ => cases h
  | .nilm, v, as, ds, as', h, hd, hr => by cases v <;> cases h; exact hd
  | .fn f a b, v, as, ds, as', h, hd, hr => by
    cases v with
    | fn f' u u' =>
      simp only [Pat.mt] at h
      have h := (bif_some h).2
      have hr2 : (∃ l, RL g w ok u l) ∧ ∃ l, RL g w ok u' l := by
        rcases hr with ⟨cs, hr⟩ | ⟨l, hr⟩
        · obtain ⟨fs, ks, e1, e2, _⟩ := hr; exact ⟨⟨fs, e1⟩, ⟨ks, e2⟩⟩
        · exact hr.elim
      split at h
      · rename_i h1
        split at h
        · rename_i h2; cases h
          exact mt_dom b _ _ _ _ h2 (mt_dom a _ _ _ _ h1 hd (.inr hr2.1)) (.inr hr2.2)
        · cases h
      · cases h
    | _ => cases h
  | .nilf, v, as, ds, as', h, hd, hr => by cases v <;> cases h; exact hd
  | .nili, v, as, ds, as', h, hd, hr => by cases v <;> cases h; exact hd
  | .yl j, v, as, ds, as', h, hd, hr => by
    cases v with
    | yl τ =>
      rcases hr with ⟨cs, hr⟩ | ⟨l, hr⟩
      · exact asgn_dom (noneL_ok h).2 hd (fun τ' e => by cases e; exact hr.1)
      · exact hr.elim
    | _ => cases h
  | .ifc t a, v, as, ds, as', h, hd, hr => by
    cases v with
    | ifc t' u =>
      simp only [Pat.mt] at h
      refine mt_dom a _ _ _ _ (bif_some h).2 hd ?_
      rcases hr with ⟨cs, hr⟩ | ⟨l, hr⟩
      · obtain ⟨cv, _, e1, e2⟩ := hr
        cases ha : u.isAgg with
        | true => obtain ⟨dd, _, e3⟩ := e1 ha; exact .inl ⟨dd, e3⟩
        | false => exact .inl ⟨_, e2 ha⟩
      · exact hr.elim
    | _ => cases h
  | .nil, v, as, ds, as', h, hd, hr => by cases v <;> cases h; exact hd
  | .cons a b, v, as, ds, as', h, hd, hr => by
    cases v with
    | cons u u' =>
      simp only [Pat.mt] at h
      have hr2 : (∃ cs, RC g w ok u cs) ∧ ∃ l, RL g w ok u' l := by
        rcases hr with ⟨cs, hr⟩ | ⟨l, hr⟩
        · exact hr.elim
        · obtain ⟨x, l', _, ⟨e1, e2⟩, e3⟩ := hr
          refine ⟨?_, ⟨l', e3⟩⟩
          cases ha : u.isAgg with
          | true => obtain ⟨dd, _, e4⟩ := e1 ha; exact ⟨dd, e4⟩
          | false => exact ⟨_, e2 ha⟩
      split at h
      · rename_i h1
        split at h
        · rename_i h2; cases h
          exact mt_dom b _ _ _ _ h2 (mt_dom a _ _ _ _ h1 hd (.inl hr2.1)) (.inr hr2.2)
        · cases h
      · cases h
    | _ => cases h
  | .dead, v, as, ds, as', h, hd, hr => by
    simp only [Pat.mt] at h
    cases (bif_some h).2; exact hd
theorem RV_some {v : AV} {cv : Value} (h : RV g w ok v cv) : ∃ cs, RC g w ok v cs := by
  cases ha : v.isAgg with
  | true => obtain ⟨dd, _, e⟩ := h.1 ha; exact ⟨dd, e⟩
  | false => exact ⟨_, h.2 ha⟩
theorem slots_dom {fr : Fr} {tmps : Array Value} (hfr : FrOK g w ok fr tmps) : ∀ (l : List (Nat × Pat)) (as : Asg) (ds : List Dyn) (as' : Asg), slotsMt m l fr as = some (ds, as') → AsD g as → AsD g as'
  | [], as, ds, as', h, hd => by cases h; exact hd
  | (n, p) :: l, as, ds, as', h, hd => by
    simp only [slotsMt] at h
    split at h
    · rename_i h1
      split at h
      · rename_i h2; cases h
        exact slots_dom hfr l _ _ _ h2 (mt_dom p _ _ _ _ h1 hd (.inl (RV_some (hfr n))))
      · cases h
    · cases h
theorem blks_dom (hf : ∀ τ, BOK g w ok τ (mget τ m)) : ∀ (l : List BPat) (j : Nat) (as : Asg) (ds : List Dyn) (as' : Asg), blksMt m l j as = some (ds, as') → AsD g as → AsD g as'
  | [], j, as, ds, as', h, hd => by cases h; exact hd
  | b :: l, j, as, ds, as', h, hd => by
    simp only [blksMt] at h
    split at h
    · rename_i τ hτ
      split at h
      · rename_i h1
        split at h
        · rename_i h2; cases h
          refine blks_dom hf l _ _ _ _ h2 ?_
          have hB := hf τ
          cases b with
          | var p =>
            cases hm : mget τ m with
            | var v =>
              rw [hm] at h1 hB
              obtain ⟨_, _, _, c, e, _, hR⟩ := hB
              exact mt_dom p _ _ _ _ (bif_some h1).2 hd (.inl ⟨_, hR⟩)
            | _ => rw [hm] at h1; cases h1
          | lp id sl p =>
            cases hm : mget τ m with
            | lp id' sl' sv tag =>
              rw [hm] at h1 hB
              obtain ⟨_, rt, fn, tmps, D, st, pe, vs, _, _, _, hR, _⟩ := hB
              exact mt_dom p _ _ _ _ (bif_some h1).2 hd (.inr ⟨_, hR⟩)
            | _ => rw [hm] at h1; cases h1
          | lpt id sl p =>
            cases hm : mget τ m with
            | lp id' sl' sv tag =>
              rw [hm] at h1 hB
              obtain ⟨_, rt, fn, tmps, D, st, pe, vs, _, _, _, hR, _⟩ := hB
              have h1 := (bif_some h1).2
              split at h1
              · rename_i h3; cases h1
                exact mt_dom p _ _ _ _ h3 hd (.inr ⟨_, hR⟩)
              · cases h1
            | _ => rw [hm] at h1; cases h1
          | fm ks p =>
            have hB := hf τ
            cases hm : mget τ m with
            | fm ks' vs =>
              rw [hm] at h1 hB
              obtain ⟨_, es, cvs, _, _, _, hR, _⟩ := hB
              have h1 := (bif_some h1).2
              exact mt_dom p _ _ _ _ h1 hd (.inr ⟨_, hR⟩)
            | _ => rw [hm] at h1; cases h1
          | row t => cases hm : mget τ m <;> rw [hm] at h1 <;> first | (cases h1; done) | (simp only [BPat.mt] at h1; split at h1 <;> cases h1; exact hd)
          | frz t => cases hm : mget τ m <;> rw [hm] at h1 <;> first | (cases h1; done) | (simp only [BPat.mt] at h1; split at h1 <;> cases h1; exact hd)
          | mp kt vt => cases hm : mget τ m <;> rw [hm] at h1 <;> first | (cases h1; done) | (simp only [BPat.mt] at h1; split at h1 <;> cases h1; exact hd)
          | gone => cases h1; exact hd
        · cases h
      · cases h
    · rename_i hτ
      split at h
      · split at h
        · rename_i h2; cases h
          exact blks_dom hf l _ _ _ _ h2 hd
        · cases h
      · cases h
    · cases h
theorem get_dom {X : Nat → Prop} {fr : Fr} {tmps : Array Value} (sh : Shape) {x : HL sh.ts} {as : Asg} (h : sh.get1 fr m = some (x, as)) (hI : Inv g X m w) (hfr : FrOK g w (okB X g m) fr tmps) (hp : sh.pin = 0) : AsD g as := by
  unfold Shape.get1 at h
  split at h
  · rename_i d1 as1 h1
    split at h
    · rename_i d2 as2 h2
      have h := (bif_some h).2
      split at h
      · cases h
        refine blks_dom (fun τ => hI.ok τ) _ _ _ _ _ h2 (slots_dom hfr _ _ _ _ h1 ?_)
        rw [hp]; intro j τ e; cases e
      · cases h
    · cases h
  · cases h
end dom
section mem
variable {ρ : Nat → Nat}
theorem renMem_in {n : Nat} (hinj : ∀ i j, i < n → j < n → ρ i = ρ j → i = j) : ∀ (l : List BPat) (j0 : Nat) (d : List Dyn) (m : Mem), j0 + l.length ≤ n → ∀ i, j0 ≤ i → i < j0 + l.length →
    mget (ρ i) (renMem ρ (blksFill l j0 d).1 ++ m) = (mget i (blksFill l j0 d).1).ren ρ
  | [], j0, d, m, hn, i, h1, h2 => by simp at h2; omega
  | b :: l, j0, d, m, hn, i, h1, h2 => by
    simp only [List.length_cons] at hn h2
    show mget (ρ i) ((ρ j0, (b.fill d).1.ren ρ) :: (renMem ρ (blksFill l (j0 + 1) (b.fill d).2).1 ++ m)) = (mget i ((j0, (b.fill d).1) :: (blksFill l (j0 + 1) (b.fill d).2).1)).ren ρ
    rw [mget_cons, mget_cons]
    by_cases e : j0 = i
    · subst e; rw [if_pos rfl, if_pos rfl]
    · rw [if_neg e, if_neg (fun h => e (hinj _ _ (by omega) (by omega) h))]
      exact renMem_in hinj l (j0 + 1) _ m (by omega) i (by omega) (by omega)
theorem renMem_out {σ : Nat} : ∀ (l : List BPat) (j0 : Nat) (d : List Dyn) (m : Mem), (∀ i, j0 ≤ i → i < j0 + l.length → ρ i ≠ σ) → mget σ (renMem ρ (blksFill l j0 d).1 ++ m) = mget σ m
  | [], j0, d, m, h => rfl
  | b :: l, j0, d, m, h => by
    show mget σ ((ρ j0, (b.fill d).1.ren ρ) :: (renMem ρ (blksFill l (j0 + 1) (b.fill d).2).1 ++ m)) = mget σ m
    rw [mget_cons, if_neg (h j0 (Nat.le_refl _) (by simp))]
    exact renMem_out l (j0 + 1) _ m (fun i h1 h2 => h i (by omega) (by simp; omega))
theorem dropA_get (as : Asg) (m : Mem) (σ : Nat) : ∀ (n j : Nat), (mget σ (dropA as j n ++ m) = .gone ∧ ∃ i, j ≤ i ∧ i < j + n ∧ alook i as = some (some σ)) ∨ (mget σ (dropA as j n ++ m) = mget σ m ∧ ∀ i, j ≤ i → i < j + n → alook i as ≠ some (some σ))
  | 0, j => .inr ⟨rfl, fun i h1 h2 => by omega⟩
  | n + 1, j => by
    have ih := dropA_get as m σ n (j + 1)
    have step : dropA as j (n + 1) = (match alook j as with | some (some τ) => (τ, .gone) :: dropA as (j + 1) n | _ => dropA as (j + 1) n) := rfl
    rw [step]
    split
    · rename_i τ hτ
      rw [List.cons_append, mget_cons]
      split
      · rename_i e; subst e; exact .inl ⟨rfl, j, Nat.le_refl _, by omega, hτ⟩
      · rename_i hne
        rcases ih with ⟨h1, i, h2, h3, h4⟩ | ⟨h1, h2⟩
        · exact .inl ⟨h1, i, by omega, by omega, h4⟩
        · refine .inr ⟨h1, fun i q1 q2 e => ?_⟩
          by_cases ei : i = j
          · subst ei; rw [hτ] at e; cases e; exact hne rfl
          · exact h2 i (by omega) (by omega) e
    · rename_i hn
      rcases ih with ⟨h1, i, h2, h3, h4⟩ | ⟨h1, h2⟩
      · exact .inl ⟨h1, i, by omega, by omega, h4⟩
      · refine .inr ⟨h1, fun i q1 q2 e => ?_⟩
        by_cases ei : i = j
        · subst ei; exact hn _ e
        · exact h2 i (by omega) (by omega) e
end mem
/-- What is not handed over is foreign to the callee. -/
def outX (X : Nat → Prop) (g : G) (m : Mem) (as : Asg) (b : Nat) : Prop := X b ∨ ∃ τ, Lv g m τ ∧ (∀ j, alook j as ≠ some (some τ)) ∧ (g.loc τ).blk = b
theorem leave_ok {ro : Shape} {g : G} {X : Nat → Prop} {m : Mem} {w : World} (hI : Inv g X m w) {sh : Shape} {x : HL sh.ts} {as : Asg} (hT : Taken g X m w (outX X g m as) sh x as) (hD : AsD g as)
    {g2 : G} {m2 : Mem} {w2 : World} (hI2 : Inv g2 (outX X g m as) m2 w2) {p : Nat} (hps : p ≤ sh.bl.length) (hpo : p ≤ ro.bl.length) (hx : Ext0 p (asgG g as sh.bl.length) (sh.mem x) w g2 m2 w2)
    {y : HL ro.ts} {as3 : Asg} {fr2 : Fr} {tmps2 : Array Value} (hfr2 : FrOK g2 w2 (okB (outX X g m as) g2 m2) fr2 tmps2) (hget : ro.get1 fr2 m2 = some (y, as3)) (hpin : ro.pin = p) :
    ∃ g4, g4.n = g.n + ro.bl.length ∧ Inv g4 X (renMem (rho p as g.n) (ro.mem y) ++ (dropA as p (sh.bl.length - p) ++ m)) w2 ∧ Ext g m w g4 (renMem (rho p as g.n) (ro.mem y) ++ (dropA as p (sh.bl.length - p) ++ m)) w2 ∧
      ∀ t, RV g4 w2 (okB X g4 (renMem (rho p as g.n) (ro.mem y) ++ (dropA as p (sh.bl.length - p) ++ m))) ((fget t (ro.fr y)).ren (rho p as g.n)) (tmps2.getD t undef) := by
  obtain ⟨hT3, hfr3⟩ := get_ok2 ro hget hI2 hfr2 (outX X g m as) (fun _ h => h) (fun _ h => .inl h)
  let g1 := asgG g as sh.bl.length
  let g3 := asgG g2 as3 ro.bl.length
  have hloc3 : ∀ j, j < p → g3.loc j = g1.loc j := fun j hj => by
    have h1 : g3.loc j = g2.loc j := asgG_some (hT3.pins j (by rw [hpin]; exact hj))
    rw [h1, (hx.pin j hj (show j < sh.bl.length by omega)).2]
  have hρs : ∀ j τ, j < p → alook j as = some (some τ) → rho p as g.n j = τ := fun j τ hj e => by unfold rho; rw [show Nat.blt j p = true by simpa using hj, e]; rfl
  have hρn : ∀ j, (j < p → ∀ τ, alook j as ≠ some (some τ)) → rho p as g.n j = g.n + j := fun j e => by
    unfold rho
    cases hb : Nat.blt j p with
    | false => rfl
    | true =>
      simp only [cond_true]
      split
      · rename_i τ h; exact absurd h (e (by simpa using hb) τ)
      · rfl
  have hcase : ∀ j, (j < p ∧ ∃ τ, alook j as = some (some τ)) ∨ (j < p → ∀ τ, alook j as ≠ some (some τ)) := fun j => by
    by_cases hj : j < p
    · cases h : alook j as with
      | none => exact .inr (fun _ τ e => by cases e)
      | some o => cases o with
        | none => exact .inr (fun _ τ e => by cases e)
        | some τ => exact .inl ⟨hj, τ, rfl⟩
    · exact .inr (fun h => absurd h hj)
  have hτlt : ∀ j τ, alook j as = some (some τ) → τ < g.n := fun j τ e => hI.dlt τ (hD j τ e)
  have hinj : ∀ i j, i < ro.bl.length → j < ro.bl.length → rho p as g.n i = rho p as g.n j → i = j := by
    intro i j _ _ e
    rcases hcase i with ⟨hi, τ, h1⟩ | h1
    · rcases hcase j with ⟨hj, σ, h2⟩ | h2
      · rw [hρs i τ hi h1, hρs j σ hj h2] at e; subst e; exact hT.inj i j τ h1 h2
      · rw [hρs i τ hi h1, hρn j h2] at e; have := hτlt i τ h1; omega
    · rcases hcase j with ⟨hj, σ, h2⟩ | h2
      · rw [hρn i h1, hρs j σ hj h2] at e; have := hτlt j σ h2; omega
      · rw [hρn i h1, hρn j h2] at e; omega
  let g4 : G := { loc := fun σ => if g.n ≤ σ then g3.loc (σ - g.n) else g.loc σ, n := g.n + ro.bl.length, dom := fun σ => g.dom σ ∨ (g.n ≤ σ ∧ σ < g.n + ro.bl.length ∧ (σ - g.n < p → ∀ τ, alook (σ - g.n) as ≠ some (some τ))), rt := g.rt }
  have h4old : ∀ σ, g.dom σ → g4.loc σ = g.loc σ := fun σ h => if_neg (by have := hI.dlt σ h; omega)
  have hρ : ∀ j, g3.dom j → g4.dom (rho p as g.n j) ∧ g4.loc (rho p as g.n j) = g3.loc j := by
    intro j hj
    have hj : j < ro.bl.length := hj
    rcases hcase j with ⟨hjp, τ, h1⟩ | h1
    · rw [hρs j τ hjp h1]
      have hd := hD j τ h1
      refine ⟨.inl hd, ?_⟩
      rw [h4old τ hd, hloc3 j hjp]
      exact (asgG_some h1).symm
    · rw [hρn j h1]
      refine ⟨.inr ⟨by omega, by omega, by rw [Nat.add_sub_cancel_left]; exact h1⟩, ?_⟩
      show (if g.n ≤ g.n + j then g3.loc (g.n + j - g.n) else _) = _
      rw [if_pos (by omega), Nat.add_sub_cancel_left]
  have hmi : ∀ j, j < ro.bl.length → mget (rho p as g.n j) (renMem (rho p as g.n) (ro.mem y) ++ (dropA as p (sh.bl.length - p) ++ m)) = (mget j (ro.mem y)).ren (rho p as g.n) := fun j hj =>
    renMem_in hinj ro.bl 0 _ _ (by omega) j (Nat.zero_le _) (by omega)
  have hmo : ∀ σ, (∀ j, j < ro.bl.length → rho p as g.n j ≠ σ) → mget σ (renMem (rho p as g.n) (ro.mem y) ++ (dropA as p (sh.bl.length - p) ++ m)) = mget σ (dropA as p (sh.bl.length - p) ++ m) := fun σ h =>
    renMem_out ro.bl 0 _ _ (fun i _ h2 => h i (by omega))
  have hmo2 : ∀ σ, (∀ j, j < ro.bl.length → rho p as g.n j ≠ σ) → mget σ (renMem (rho p as g.n) (ro.mem y) ++ (dropA as p (sh.bl.length - p) ++ m)) = .gone ∨
      (mget σ (renMem (rho p as g.n) (ro.mem y) ++ (dropA as p (sh.bl.length - p) ++ m)) = mget σ m ∧ ∀ j, alook j as ≠ some (some σ)) := fun σ hno => by
    rw [hmo σ hno]
    rcases dropA_get as m σ (sh.bl.length - p) p with ⟨h1, _⟩ | ⟨h1, h2⟩
    · exact .inl h1
    · refine .inr ⟨h1, fun j e => ?_⟩
      by_cases hj : j < p
      · exact hno j (by omega) (hρs j σ hj e)
      · exact h2 j (by omega) (by have := hT.asg j _ e; omega) e
  generalize hm4 : renMem (rho p as g.n) (ro.mem y) ++ (dropA as p (sh.bl.length - p) ++ m) = m4 at *
  have hsplit : ∀ σ, (∃ j, j < ro.bl.length ∧ rho p as g.n j = σ) ∨ ∀ j, j < ro.bl.length → rho p as g.n j ≠ σ := fun σ => by
    by_cases h : ∃ j, j < ro.bl.length ∧ rho p as g.n j = σ
    · exact .inl h
    · exact .inr (fun j hj e => h ⟨j, hj, e⟩)
  -- who is one's own behind it
  have hlv : ∀ σ, Lv g4 m4 σ → (∃ j, j < ro.bl.length ∧ rho p as g.n j = σ ∧ Lv g3 (ro.mem y) j ∧ g4.loc σ = g3.loc j) ∨ (Lv g m σ ∧ (∀ j, alook j as ≠ some (some σ)) ∧ g4.loc σ = g.loc σ) := by
    intro σ ⟨h1, h2⟩
    rcases hsplit σ with ⟨j, hj, e⟩ | hno
    · subst e
      rw [hmi j hj, ren_live] at h1
      have := (hρ j hj).2
      exact .inl ⟨j, hj, rfl, ⟨h1, by rw [← this]; exact h2⟩, this⟩
    · rcases hmo2 σ hno with h3 | ⟨h3, h4⟩
      · rw [h3] at h1; cases h1
      · rw [h3] at h1
        have hd := hI.live_lt h1
        have := h4old σ hd
        exact .inr ⟨⟨h1, by rw [← this]; exact h2⟩, h4, this⟩
  have hown : ∀ b, Own g4 m4 b → Own g3 (ro.mem y) b ∨ (Own g m b ∧ outX X g m as b) := by
    rintro b ⟨σ, h1, h2⟩
    rcases hlv σ h1 with ⟨j, _, _, h3, h4⟩ | ⟨h3, h4, h5⟩
    · exact .inl ⟨j, h3, by rw [← h4]; exact h2⟩
    · exact .inr ⟨⟨σ, h3, by rw [← h5]; exact h2⟩, .inr ⟨σ, h3, h4, by rw [← h5]; exact h2⟩⟩
  have hown3 : ∀ b, Own g3 (ro.mem y) b → Own g2 m2 b := by
    rintro b ⟨i, l1, l2⟩
    obtain ⟨τ, e1, e2⟩ := hT3.own i l1
    exact ⟨τ, e2, by rw [← asgG_some e1 (n := ro.bl.length)]; exact l2⟩
  have hown1 : ∀ b, Own g1 (sh.mem x) b → Own g m b := by
    rintro b ⟨i, l1, l2⟩
    obtain ⟨τ, e1, e2⟩ := hT.own i l1
    exact ⟨τ, e2, by rw [← asgG_some e1 (n := sh.bl.length)]; exact l2⟩
  have hownE : ∀ b, Own g4 m4 b → Own g m b ∨ w.heap.size ≤ b := by
    intro b hb
    rcases hown b hb with h | ⟨h, _⟩
    · exact (hx.own b (hown3 b h)).imp (hown1 b) id
    · exact .inl h
  have hH3 : Holds w2 (okB (outX X g m as) g3 (ro.mem y)) w2 (okB X g4 m4) := by
    rintro b ⟨h1, h2⟩ _
    refine ⟨⟨fun h => h1 (.inl h), fun h => ?_⟩, rfl⟩
    rcases hown b h with h | ⟨_, h⟩
    · exact h2 h
    · exact h1 h
  have hgx : GExt g g4 := ⟨⟨by show g.n ≤ g.n + _; omega, rfl⟩, fun τ h => ⟨.inl h, h4old τ h⟩⟩
  have hkeep : ∀ b, b < w.heap.size → ¬ Own g m b → w2.heap[b]? = w.heap[b]? := fun b hb hn => hx.keep b hb (fun h => hn (hown1 b h))
  have hH : Holds w (okB X g m) w2 (okB X g4 m4) := by
    rintro b ⟨h1, h2⟩ ⟨_, _, _, h3⟩
    have hlt := lt_of_heap h3
    refine ⟨⟨h1, fun h => ?_⟩, hkeep b hlt h2⟩
    rcases hownE b h with h | h
    · exact h2 h
    · omega
  have hrt3 : g4.rt = g3.rt := by show g.rt = g2.rt; rw [hx.rt]; rfl
  refine ⟨g4, rfl, ⟨fun σ => ?_, fun σ σ' h1 h2 e => ?_, fun σ h1 h2 => ?_, fun b hb => Nat.lt_of_lt_of_le (hI.xlt b hb) hx.size, fun σ hd => ?_, fun σ hd => ?_⟩, ⟨hgx, fun σ hd => ?_, hx.size, hkeep, hownE, hx.os, hx.tape, hx.output⟩, fun t => RV_ren hρ hH3 (hfr3 t)⟩
  · rcases hsplit σ with ⟨j, hj, e⟩ | hno
    · subst e
      rw [hmi j hj]
      exact BOK_ren hρ hH3 hrt3 (show g3.dom j from hj) (hT3.inv.ok j)
    · rcases hmo2 σ hno with h3 | ⟨h3, h4⟩
      · rw [h3]; trivial
      rw [h3]
      by_cases hd : g.dom σ
      · refine BOK_mono hgx hH hd (fun q1 q2 => ?_) (hI.ok σ)
        have hl : Lv g m σ := ⟨q1, q2⟩
        refine hx.keep _ (hI.heap_lt hl) (fun ⟨i, l1, l2⟩ => ?_)
        obtain ⟨τ', e1, e2⟩ := hT.own i l1
        rw [asgG_some e1 (n := sh.bl.length)] at l2
        have := hI.inj τ' σ e2 hl l2
        subst this
        exact h4 i e1
      · rw [hI.fresh σ hd]; trivial
  · rcases hlv σ h1 with ⟨j, q1, q2, q3, q4⟩ | ⟨q1, q2, q3⟩
    · rcases hlv σ' h2 with ⟨j', p1, p2, p3, p4⟩ | ⟨p1, p2, p3⟩
      · have := hT3.inv.inj j j' q3 p3 (by rw [← q4, ← p4]; exact e)
        rw [← q2, ← p2, this]
      · exact absurd (.inr ⟨σ', p1, p2, by rw [← p3, ← e, q4]⟩) (hT3.inv.far j q3)
    · rcases hlv σ' h2 with ⟨j', p1, p2, p3, p4⟩ | ⟨p1, p2, p3⟩
      · exact absurd (.inr ⟨σ, q1, q2, by rw [← q3, e, p4]⟩) (hT3.inv.far j' p3)
      · exact hI.inj σ σ' q1 p1 (by rw [← q3, ← p3]; exact e)
  · rcases hlv σ h1 with ⟨j, q1, q2, q3, q4⟩ | ⟨q1, q2, q3⟩
    · rw [q4] at h2; exact hT3.inv.far j q3 (.inl h2)
    · rw [q3] at h2; exact hI.far σ q1 h2
  · rcases hsplit σ with ⟨j, hj, e⟩ | hno
    · subst e; exact absurd (hρ j hj).1 hd
    · rcases hmo2 σ hno with h3 | ⟨h3, h4⟩
      · exact h3
      · rw [h3]; exact hI.fresh σ (fun h => hd (.inl h))
  · rcases hd with hd | ⟨_, hd, _⟩
    · have := hI.dlt σ hd; show σ < g.n + _; omega
    · exact hd
  · exact hd.imp id (fun h => h.1)
end Go.Proofs.Ytkeolcgggondnaa.VX
