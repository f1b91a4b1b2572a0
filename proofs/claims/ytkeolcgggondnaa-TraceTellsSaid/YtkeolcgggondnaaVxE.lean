/- The engine, part E: the run of a text. -/
import Derived.Test.YtkeolcgggondnaaVxJ
set_option linter.unusedVariables false
set_option linter.unusedSimpArgs false
namespace Go.Proofs.Ytkeolcgggondnaa.VX
section
variable {P : Program} {C : Ctx} {X : Nat → Prop} {R : Type} {o : Oper} {a : Act} {w : World} {g : G} {m : Mem} {k kp : AV → Mem → Nat → Option R} {r : R} {fr : Fr}
/-- A piece of text answers as a contract says. -/
def CSound (P : Program) (ek : EK) (c : Code) (s : CSpec) : Prop :=
  ∀ {R : Type} (fr : Fr) (m : Mem) (g : G) (k : Ex → Fr → Mem → Nat → Option R) (r : R) (X : Nat → Prop) (E : Env) (a : Act) (w : World), EnvOK P ek E → s.run fr m g.n k = some r → StOK g X E fr m a w → c.wpIn (FR E.rd) 0 P (PostK X E g m w k r) a w
/-- The pieces of a text that stand for a number. -/
def pieces (t n : Nat) : Code → List Code
  | .seq a b => pieces t n a ++ pieces t n b
  | .cond c a b => (bif Nat.beq t 1 && Nat.beq n (Code.firstId (.cond c a b)) then [.cond c a b] else []) ++ (pieces t n a ++ pieces t n b)
  | .block _ a => pieces t n a
  | .scope a => (bif Nat.beq t 2 && Nat.beq n (Code.firstId a) then [.scope a] else []) ++ pieces t n a
  | .loop a => (bif Nat.beq t 0 && Nat.beq n (Code.firstId a) then [.loop a] else []) ++ pieces t n a
  | .rangeFunc f ps a b => bif Nat.beq t 3 && Nat.beq n (Code.firstId a) then [.rangeFunc f ps a b] else []
  | _ => []
/-- All summaries hold of the pieces of a text. -/
def SumOK (P : Program) (C : Ctx) (c : Code) : Prop := ∀ t n s, sumget t n C.sum = some s → ∀ d ∈ pieces t n c, CSound P C.ek d s
theorem onTmp_ok {ok : Nat → Prop} {c : Operand} {b : Bool} (hf : FrOK g w ok fr a.tmps) (hc : a.eval c = .bool b) (hn : a.tmps.size = C.nt) : FrOK g w ok (onTmp C fr b c) a.tmps := by
  cases c with
  | tmp t =>
    show FrOK g w ok (bif Nat.blt t C.nt then (t, AV.d .bool b) :: fr else fr) a.tmps
    cases hb : Nat.blt t C.nt with
    | false => exact hf
    | true =>
      intro t'
      show RV g w ok (fget t' ((t, .d .bool b) :: fr)) _
      rw [fget_cons]
      split
      · rename_i e; subst e
        have : a.tmps.getD t undef = .bool b := hc
        rw [this]; exact bool_mk b
      · exact hf t'
  | _ => exact hf
theorem drawn_ok (hC : CtxOK P C) {E : Env} (hE : EnvOK P C.ek E) {id : Nat} (ops : Array Oper) (hsd : sdOK ops (masks ops.toList []) ops.toList 0 = true) {k : Fr → Mem → Nat → Option R} (Q : Exit → Act → World → Prop) (fr : Fr) (m : Mem) (g : G) (a : Act) (w : World)
    (h : aopsD C ops (masks ops.toList []) ops.toList 0 fr m g.n [] k = some r) (hst : StOK g X E fr m a w)
    (hk : ∀ fr' m' g' a' w', k fr' m' g'.n = some r → StOK g' X E fr' m' a' w' → Ext g m w g' m' w' → Q .normal a' w') : (Code.region id ops true).wpIn (FR E.rd) 0 P Q a w := by
  refine wpIn_region_any hC.mixed ?_
  obtain ⟨T, ⟨t1, t2, t3⟩, t4, t5, t6, t7⟩ := aopsD_tr ⟨fun f cl s hs => (hC.fx f cl s hs).1, fun id sl s hs => (hC.ys id sl s hs).1, hC.miss⟩ ops.toList 0 (by simp) (by simp) fr m g.n [] h
  have hT : TF C ops (masks ops.toList []) T := ⟨fun j o ho => t4 j o (Nat.zero_le _) ho, fun j o ho => sdOK_ok ops.toList 0 (by simp) hsd j o (Nat.zero_le _) ho, fun j j' h1 h2 h3 => (t6 j j' (Nat.zero_le _) h1 h2 h3).imp (fun h => h) (fun ⟨q1, q2, q3⟩ => ⟨keys_nil q1, q2, fun p h4 h5 => keys_nil (q3 p h4 h5)⟩)⟩
  have hN : g.n ≤ T.N ops.size := by rw [← t3]; exact hT.mono ops.size 0 (Nat.zero_le _) (Nat.le_refl _)
  have hL0 : ∀ j, lst (Array.replicate ops.size false) j = false := by
    intro j
    unfold lst
    simp only [Array.getD_eq_getD_getElem?, Array.getElem?_replicate]
    split <;> rfl
  have hm0 : ∀ k, memL T (lst (Array.replicate ops.size false)) k = m := by
    intro k
    induction k with
    | zero => exact t2
    | succ k ih => show (bif lst (Array.replicate ops.size false) k then _ else _) = _; rw [hL0 k]; exact ih
  refine drawn_any (rd := E.rd) (ds := a.defers) (X := X) (g0 := g) (m0 := m) (w0 := w) (Q := Q) hT hC (hst.rt.trans hE.rt) t3.symm (fun L g' a' w' hall hJ => ?_) ops.size (Array.replicate ops.size false) ⟨g.loc, T.N ops.size, g.dom, g.rt⟩ a _ (by simp) ?_ (fun i hi => by rw [hL0] at hi; cases hi) ?_
  · have hM := memL_all hT hall ops.size (Nat.le_refl _)
    refine hk (T.F ops.size) (T.M ops.size) g' a' w' (by rw [hJ.n]; exact t7) ⟨by rw [← hM]; exact hJ.inv, fun t => ?_, hJ.size.trans hE.nt.symm, by rw [hJ.defers]; exact hst.defers.mono (by rw [← hM]; exact hJ.ext.stays), hJ.ext.gx.1.2.trans hst.rt, Nat.le_trans hst.b0 hJ.ext.size⟩ (by rw [← hM]; exact hJ.ext)
    rw [← hM]
    rcases hT.frame t ops.size (Nat.le_refl _) with ⟨j, o, q1, q2, q3, q4⟩ | ⟨q1, q2⟩
    · rw [q4]; exact hJ.val j o q2 (hall j q1) t q3
    · rw [q2]
      refine hJ.base t (fun j o h1 _ => q1 j o ?_ h1)
      have := (List.getElem?_eq_some_iff.1 h1).1
      simpa using this
  · have : ∀ n, unl (List.replicate n false) = n := by
      intro n
      induction n with
      | zero => rfl
      | succ n ih => simp only [List.replicate_succ, unl, ih]; simp; omega
    simpa using this ops.size
  · have hI := hst.inv
    have hgx : GExt g ⟨g.loc, T.N ops.size, g.dom, g.rt⟩ := ⟨⟨hN, rfl⟩, fun τ h => ⟨h, rfl⟩⟩
    have hH : Holds w (okB X g m) { w with drawn := w.drawn + 1 } (okB X ⟨g.loc, T.N ops.size, g.dom, g.rt⟩ m) := fun b hb _ => ⟨⟨hb.1, fun ⟨τ, h1, h2⟩ => hb.2 ⟨τ, h1, h2⟩⟩, rfl⟩
    have hfr : FrOK ⟨g.loc, T.N ops.size, g.dom, g.rt⟩ { w with drawn := w.drawn + 1 } (okB X ⟨g.loc, T.N ops.size, g.dom, g.rt⟩ m) fr a.tmps := FrOK.mono hgx hH hst.fr
    refine ⟨rfl, ?_, fun τ hd => .inl ?_, fun j o _ hl => (by rw [hL0] at hl; cases hl), fun t _ => ?_, hst.size.trans hE.nt, rfl, ?_⟩
    · rw [hm0]
      refine ⟨fun τ => ?_, fun τ τ' h1 h2 => hI.inj τ τ' h1 h2, fun τ h1 => hI.far τ h1, hI.xlt, hI.fresh, fun τ hd => Nat.lt_of_lt_of_le (hI.dlt τ hd) hN⟩
      by_cases hd : g.dom τ
      · exact BOK_mono hgx hH hd (fun _ _ => rfl) (hI.ok τ)
      · rw [hI.fresh τ hd]; trivial
    · rw [t3]; exact hI.dlt τ hd
    · rw [hm0, t1]; exact hfr t
    · rw [hm0]
      exact ⟨hgx, fun τ h => .inl h, Nat.le_refl _, fun _ _ _ => rfl, fun b ⟨τ, h1, h2⟩ => .inl ⟨τ, h1, h2⟩, rfl, rfl, rfl⟩
theorem maskOf_some {R : Type} {o : Option (List Nat)} {ms : List Nat} {k : List Nat → Option R} {r : R} (h : maskOf o ms k = some r) : k ms = some r := by
  unfold maskOf at h
  split at h
  · obtain ⟨h1, h2⟩ := bif_some h
    rw [← beqNs_eq h1]; exact h2
  · exact h
theorem StOK.ext {g g' : G} {X : Nat → Prop} {E : Env} {fr : Fr} {m m' : Mem} {a : Act} {w : World} (h : StOK g X E fr m a w) (hx : Ext g m w g' m' w) (hI : Inv g' X m' w) : StOK g' X E fr m' a w :=
  ⟨hI, FrOK.mono hx.gx (hx.holds (X := X)) h.fr, h.size, h.defers.mono hx.stays, hx.gx.1.2.trans h.rt, h.b0⟩
theorem rown1_ok {g : G} {X : Nat → Prop} {E : Env} {fr : Fr} {m : Mem} {a : Act} {w : World} (n : Nat) (hst : StOK g X E fr m a w) :
    ∃ g', g'.n = (rown1 n fr m g.n).2.2 ∧ StOK g' X E (rown1 n fr m g.n).1 (rown1 n fr m g.n).2.1 a w ∧ Ext0 E.pin g m w g' (rown1 n fr m g.n).2.1 w := by
  have h0 : rown1 n fr m g.n = (fr, m, g.n) → ∃ g', g'.n = (rown1 n fr m g.n).2.2 ∧ StOK g' X E (rown1 n fr m g.n).1 (rown1 n fr m g.n).2.1 a w ∧ Ext0 E.pin g m w g' (rown1 n fr m g.n).2.1 w := fun e => by rw [e]; exact ⟨g, rfl, hst, Ext0.refl ..⟩
  cases hv : fget n fr with
  | vw τ lo q sz =>
    cases hm : mget τ m with
    | row t xs =>
      cases hs : Nat.beq sz t.size with
      | false => exact h0 (by unfold rown1; simp only [hv, hm, hs, cond_false])
      | true =>
        have he : rown1 n fr m g.n = ((n, .sl g.n) :: fr, (g.n, .row t (cut xs lo q)) :: (τ, .gone) :: m, g.n + 1) := by unfold rown1; simp only [hv, hm, hs, cond_true]
        rw [he]
        clear he h0
        have hsz := Nat.eq_of_beq_eq_true hs
        subst hsz
        have hf := (hst.fr n).2
        rw [hv] at hf
        obtain ⟨hd, v, e1, ⟨hl1, hl2⟩, ad, e2, hcase⟩ := hf rfl
        have hvv : a.tmps.getD n undef = v := (List.cons.inj e1).1
        have hB := hst.inv.ok τ
        rw [hm] at hB
        obtain ⟨b1, b2, b3⟩ := hB
        have hcl : (cut xs lo q).length = q := by unfold cut; simp; omega
        rcases hcase with ⟨hn, had⟩ | ⟨hn, o, had, ho1, ho2⟩
        · have hcap : (g.loc τ).cap = 0 := by
            rcases b3 with ⟨_, h⟩ | ⟨h, _⟩
            · exact h
            · rw [hn] at h; cases h
          have hq : q = 0 := by omega
          let L : Loc := ⟨(g.loc τ).blk, 0, 0, 0, true⟩
          have hI1 := hst.inv.kill τ hd
          have hx1 : Ext g m w g ((τ, .gone) :: m) w := Ext.kill τ
          have hx2 : Ext g ((τ, .gone) :: m) w (g.new L) ((g.n, .row t (cut xs lo q)) :: (τ, .gone) :: m) w := Ext.fresh hI1 _ L rfl
          have hI2 : Inv (g.new L) X ((g.n, .row t (cut xs lo q)) :: (τ, .gone) :: m) w := hI1.new _ L hx2 (fun _ _ => rfl) (.inl rfl) (by
            refine ⟨?_, ?_, .inl ⟨?_, ?_⟩⟩
            · rw [g.new_self, hcl, hq]
            · rw [g.new_self]; exact Nat.le_refl _
            · rw [g.new_self]
            · rw [g.new_self])
          have hx := hx1.trans hx2
          have hst2 := hst.ext hx hI2
          refine ⟨g.new L, rfl, ⟨hst2.inv, ?_, hst2.size, hst2.defers, hst2.rt, hst2.b0⟩, hx.to0⟩
          intro t'
          rw [fget_cons]
          by_cases e : n = t'
          · subst e
            rw [if_pos rfl]
            refine ⟨fun h => (by cases h), fun _ => ⟨.inr rfl, ?_⟩⟩
            rw [g.new_self, hvv, e2, had, hq, hcap, Nat.zero_sub]; rfl
          · rw [if_neg e]; exact hst2.fr t'
        · obtain ⟨_, c, el, cells, k3, k4, k5, k6⟩ := b3.resolve_left (fun h => by rw [hn] at h; cases h.1)
          let L : Loc := ⟨(g.loc τ).blk, o, q, (g.loc τ).cap - lo, false⟩
          have hlv : Lv g m τ := ⟨by rw [hm]; rfl, hn⟩
          have hx : Ext g m w (g.new L) ((g.n, .row t (cut xs lo q)) :: (τ, .gone) :: m) w := Ext.move hst.inv.ndom hlv _ L rfl rfl (fun _ _ => rfl) rfl rfl rfl
          have hRl := fun x cs h => Rd_len w (okB X g m) t x cs h
          have hcells := RdL_len hRl xs cells k4
          have hI2 : Inv (g.new L) X ((g.n, .row t (cut xs lo q)) :: (τ, .gone) :: m) w := hst.inv.move hlv _ L rfl rfl (fun _ _ => rfl) rfl rfl rfl (by
            refine ⟨?_, ?_, .inr ⟨?_, c, el, (cells.drop (lo * t.size)).take (q * t.size), ?_, ?_, fun j v hj => ?_, ?_⟩⟩
            · rw [g.new_self]; exact hcl
            · rw [g.new_self]; show q ≤ _ - lo; omega
            · rw [g.new_self]
            · rw [g.new_self]; exact k3
            · have h1 := (RdL_split hRl xs cells k4 lo).2
              have h2 := (RdL_split hRl (xs.drop lo) _ h1 q).1
              exact RdL_mono (fun x cs => Rd_mono (hx.holds (X := X)) t x cs) _ _ h2
            · rw [g.new_self]
              show c[o + j]? = some v
              rw [List.getElem?_take] at hj
              split at hj
              · rename_i hlt
                rw [List.getElem?_drop] at hj
                have hj2 := k5 _ _ hj
                have hq : 0 < q := by
                  cases q with
                  | zero => rw [Nat.zero_mul] at hlt; exact absurd hlt (Nat.not_lt_zero _)
                  | succ q => exact Nat.succ_pos q
                rw [ho1 (by omega)]
                rw [show (g.loc τ).base + lo * t.size + j = (g.loc τ).base + (lo * t.size + j) by omega]
                exact hj2
              · cases hj
            · rw [g.new_self]
              show o + ((g.loc τ).cap - lo) * t.size ≤ c.size
              rcases Nat.lt_or_ge lo (g.loc τ).cap with h | h
              · rw [ho1 h, Nat.sub_mul]
                have : lo * t.size ≤ (g.loc τ).cap * t.size := Nat.mul_le_mul_right _ (by omega)
                omega
              · rw [show (g.loc τ).cap - lo = 0 by omega]; omega)
          have hst2 := hst.ext hx hI2
          refine ⟨g.new L, rfl, ⟨hst2.inv, ?_, hst2.size, hst2.defers, hst2.rt, hst2.b0⟩, hx.to0⟩
          intro t'
          rw [fget_cons]
          by_cases e : n = t'
          · subst e
            rw [if_pos rfl]
            refine ⟨fun h => (by cases h), fun _ => ⟨.inr rfl, ?_⟩⟩
            rw [g.new_self, hvv, e2, had]; rfl
          · rw [if_neg e]; exact hst2.fr t'
    | _ => exact h0 (by unfold rown1; simp only [hv, hm])
  | _ => exact h0 (by unfold rown1; simp only [hv])
theorem rownS_ok {X : Nat → Prop} {E : Env} {a : Act} {w : World} : ∀ (l : List Nat) {g : G} {fr : Fr} {m : Mem}, StOK g X E fr m a w →
    ∃ g', g'.n = (rownS l fr m g.n).2.2 ∧ StOK g' X E (rownS l fr m g.n).1 (rownS l fr m g.n).2.1 a w ∧ Ext0 E.pin g m w g' (rownS l fr m g.n).2.1 w
  | [], g, fr, m, h => ⟨g, rfl, h, Ext0.refl ..⟩
  | n :: l, g, fr, m, h => by
    obtain ⟨g1, n1, h1, x1⟩ := rown1_ok n h
    simp only [rownS]
    rw [← n1]
    obtain ⟨g2, n2, h2, x2⟩ := rownS_ok l h1
    exact ⟨g2, n2, h2, x1.trans x2⟩
theorem rownK_ok {R : Type} {X : Nat → Prop} {E : Env} {a : Act} {w w0 : World} {l : List Nat} {g g0 : G} {fr : Fr} {m m0 : Mem} {k : Ex → Fr → Mem → Nat → Option R} {r : R} (h : rownK l (k .normal) fr m g.n = some r) (hst : StOK g X E fr m a w) (hx : Ext0 E.pin g0 m0 w0 g m w) :
    PostK X E g0 m0 w0 k r .normal a w := by
  obtain ⟨g', n', hst', hx'⟩ := rownS_ok l hst
  have h : k .normal (rownS l fr m g.n).1 (rownS l fr m g.n).2.1 (rownS l fr m g.n).2.2 = some r := h
  rw [← n'] at h
  exact ⟨.normal, _, _, g', rfl, h, hst', hx.trans hx'⟩
theorem exec_ok (hC : CtxOK P C) {E : Env} (hE : EnvOK P C.ek E) : ∀ (c : Code) (hS : SumOK P C c) {R : Type} (fr : Fr) (m : Mem) (g : G) (k : Ex → Fr → Mem → Nat → Option R) (r : R) (X : Nat → Prop) (a : Act) (w : World),
    exec C c fr m g.n k = some r → StOK g X E fr m a w → c.wpIn (FR E.rd) 0 P (PostK X E g m w k r) a w
  | .skip, _, R, fr, m, g, k, r, X, a, w, h, hst => wpIn_skip ⟨.normal, fr, m, g, rfl, h, hst, Ext0.refl _ _ _ _⟩
  | .region id ops dr, _, R, fr, m, g, k, r, X, a, w, h, hst => by
    simp only [exec] at h
    cases dr with
    | true =>
      simp only [cond_true] at h
      have h := maskOf_some h
      obtain ⟨hsd, h2⟩ := bif_some h
      clear h
      obtain ⟨hI1, hx1⟩ := Inv.frzL (hzToks id fr C.hz) hst.inv
      exact drawn_ok hC hE ops hsd (PostK X E g m w k r) fr _ g a w h2 ⟨hI1, FrOK.mono hx1.gx hx1.holds hst.fr, hst.size, hst.defers.mono hx1.stays, hst.rt, Nat.le_trans hst.b0 hx1.size⟩
        (fun fr' m' g' a' w' q1 q2 q3 => rownK_ok q1 q2 (hx1.trans q3).to0)
    | false =>
      simp only [cond_false] at h
      refine wpIn_region ?_
      have := aops_ok (X := X) hC hE ops (k := rownK (rwOf id C.rw) (k .normal)) (kx := k) (PostK X E g m w k r) ops.toList 0 (by simp) (by simp) fr m g a w h hst
        (fun fr' m' g' a' w' q1 q2 q3 => rownK_ok q1 q2 q3.to0)
        (fun v fr' m' g' a' w' cv q1 q2 q3 q4 => ⟨.panic v, fr', m', g', ⟨cv, rfl, q3⟩, q1, q2, q4.to0⟩)
      simpa using this
  | .seq x y, hS, R, fr, m, g, k, r, X, a, w, h, hst => by
    simp only [exec] at h
    refine wpIn_seq (wpIn_mono (exec_ok hC hE x (fun t n s hs d hd => hS t n s hs d (by simp [pieces, hd])) fr m g _ r X a w h hst) ?_)
    rintro e a1 w1 ⟨e', fr1, m1, g1, q1, q2, q3, q4⟩
    cases e' with
    | normal =>
      cases q1
      exact wpIn_mono (exec_ok hC hE y (fun t n s hs d hd => hS t n s hs d (by simp [pieces, hd])) fr1 m1 g1 k r X a1 w1 q2 q3) (fun e2 a2 w2 hp => hp.trans q4)
    | exit i => cases q1; exact ⟨.exit i, fr1, m1, g1, rfl, q2, q3, q4⟩
    | goto l => cases q1; exact ⟨.goto l, fr1, m1, g1, rfl, q2, q3, q4⟩
    | ret => cases q1; exact ⟨.ret, fr1, m1, g1, rfl, q2, q3, q4⟩
    | panic v => obtain ⟨cv, rfl, q5⟩ := q1; exact ⟨.panic v, fr1, m1, g1, ⟨cv, rfl, q5⟩, q2, q3, q4⟩
  | .cond c x y, hS, R, fr, m, g, k, r, X, a, w, h, hst => by
    simp only [exec] at h
    split at h
    · rename_i s hs
      exact hS 1 _ s hs _ (by simp [pieces]) fr m g k r X E a w hE h hst
    · have hc := ev_ok hst.fr c
      split at h
      · rename_i b hb
        rw [hb] at hc
        have hcv := bool_get hc
        cases b with
        | true => exact wpIn_cond_true hcv (exec_ok hC hE x (fun t n s hs d hd => hS t n s hs d (by simp [pieces, hd])) _ m g k r X a w h ⟨hst.inv, onTmp_ok hst.fr hcv (hst.size.trans hE.nt), hst.size, hst.defers, hst.rt, hst.b0⟩)
        | false => exact wpIn_cond_false hcv (exec_ok hC hE y (fun t n s hs d hd => hS t n s hs d (by simp [pieces, hd])) _ m g k r X a w h ⟨hst.inv, onTmp_ok hst.fr hcv (hst.size.trans hE.nt), hst.size, hst.defers, hst.rt, hst.b0⟩)
      · cases h
  | .block id c, hS, R, fr, m, g, k, r, X, a, w, h, hst => by
    simp only [exec] at h
    refine wpIn_block (wpIn_mono (exec_ok hC hE c (fun t n s hs d hd => hS t n s hs d (by simpa [pieces] using hd)) fr m g _ r X a w h hst) ?_)
    rintro e a1 w1 ⟨e', fr1, m1, g1, q1, q2, q3, q4⟩
    cases e' with
    | normal => cases q1; exact ⟨.normal, fr1, m1, g1, rfl, q2, q3, q4⟩
    | exit i =>
      cases q1
      simp only at q2
      cases hb : Nat.beq i id with
      | true =>
        rw [hb] at q2
        show (if i = id then _ else _)
        rw [if_pos (Nat.eq_of_beq_eq_true hb)]
        exact ⟨.normal, fr1, m1, g1, rfl, q2, q3, q4⟩
      | false =>
        rw [hb] at q2
        show (if i = id then _ else _)
        rw [if_neg (fun e => by subst e; rw [Nat.beq_refl] at hb; cases hb)]
        exact ⟨.exit i, fr1, m1, g1, rfl, q2, q3, q4⟩
    | goto l => cases q1; exact ⟨.goto l, fr1, m1, g1, rfl, q2, q3, q4⟩
    | ret => cases q1; exact ⟨.ret, fr1, m1, g1, rfl, q2, q3, q4⟩
    | panic v => obtain ⟨cv, rfl, q5⟩ := q1; exact ⟨.panic v, fr1, m1, g1, ⟨cv, rfl, q5⟩, q2, q3, q4⟩
  | .loop c, hS, R, fr, m, g, k, r, X, a, w, h, hst => by
    simp only [exec] at h
    split at h
    · rename_i s hs
      exact hS 0 _ s hs _ (by simp [pieces]) fr m g k r X E a w hE h hst
    · cases h
  | .exit id, _, R, fr, m, g, k, r, X, a, w, h, hst => wpIn_exit ⟨.exit id, fr, m, g, rfl, h, hst, Ext0.refl _ _ _ _⟩
  | .ret, _, R, fr, m, g, k, r, X, a, w, h, hst => wpIn_ret ⟨.ret, fr, m, g, rfl, h, hst, Ext0.refl _ _ _ _⟩
  | .label l, _, R, fr, m, g, k, r, X, a, w, h, hst => wpIn_label ⟨.normal, fr, m, g, rfl, h, hst, Ext0.refl _ _ _ _⟩
  | .goto l, _, R, fr, m, g, k, r, X, a, w, h, hst => wpIn_goto ⟨.goto l, fr, m, g, rfl, h, hst, Ext0.refl _ _ _ _⟩
  | .scope c, hS, R, fr, m, g, k, r, X, a, w, h, hst => by
    simp only [exec] at h
    split at h
    · rename_i s hs
      exact hS 2 _ s hs _ (by simp [pieces]) fr m g k r X E a w hE h hst
    · cases h
  | .rangeFunc f ps x y, hS, R, fr, m, g, k, r, X, a, w, h, hst => by
    simp only [exec] at h
    split at h
    · rename_i s hs
      exact hS 3 _ s hs _ (by simp [pieces]) fr m g k r X E a w hE h hst
    · cases h
  | .refuse _, _, R, fr, m, g, k, r, X, a, w, h, hst => by cases h
end
end Go.Proofs.Ytkeolcgggondnaa.VX
