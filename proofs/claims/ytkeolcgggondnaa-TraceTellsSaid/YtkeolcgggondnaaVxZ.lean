/- The engine, part Z: ranges over functions. -/
import Derived.Test.YtkeolcgggondnaaVxY
set_option linter.unusedVariables false
set_option linter.unusedSimpArgs false
namespace Go.Proofs.Ytkeolcgggondnaa.VX
def exK {R : Type} (t : Int) (k : Nat → Option R) : List Nat → Option R
  | [] => none
  | i :: l => cond (eqI t (natI (i + 2))) (k i) (exK t k l)
/-- A range over a function: its number, the slots that its rounds look at, the exits by which they may be left. -/
def rangeSpec (f : Operand) (id : Nat) (slots exs : List Nat) (fx : List (FuncId × List FuncId × Spec)) : CSpec where
  run fr m N k := match ev fr f with
    | .fn gf .nil cap => match listAV cap with
      | some l2 => match fxget gf (closOf l2 ++ [1000000 + id]) fx with
        | some s => s.run (.yl N :: l2) ((N, .lp id slots (avList (slots.map fun t => fget t fr)) 0) :: m) (N + 1)
            (fun _ m' N' => match mget N m' with
              | .lp _ _ _ t => cond (eqI t 0) (k .normal fr ((N, .gone) :: m') N') (cond (eqI t 1) (k .ret fr ((N, .gone) :: m') N') (exK t (fun i => k (.exit i) fr ((N, .gone) :: m') N') exs))
              | _ => none) (fun _ _ _ => none)
        | none => none
      | none => none
    | _ => none
section
variable {P : Program}
theorem Inv.grow {g : G} {X : Nat → Prop} {m : Mem} {w : World} (hI : Inv g X m w) (ob : Obj) : Inv g X m (w.alloc ob) ∧ Ext g m w g m (w.alloc ob) := by
  have hs : (w.alloc ob).heap.size = w.heap.size + 1 := by simp
  have hh : ∀ b, b < w.heap.size → (w.alloc ob).heap[b]? = w.heap[b]? := fun b hb => by
    show (w.heap.push ob)[b]? = _
    rw [Array.getElem?_push, if_neg (by omega)]
  have hx : Ext g m w g m (w.alloc ob) := ⟨GExt.refl g, fun _ h => .inl h, by omega, fun b hb _ => hh b hb, fun b hb => .inl hb, rfl, rfl, rfl⟩
  refine ⟨hI.step hx (fun τ => ?_) hI.inj hI.far hI.fresh hI.dlt, hx⟩
  by_cases hd : g.dom τ
  · exact .inl ⟨hd, rfl, fun hl => hh _ (hI.heap_lt hl)⟩
  · right; rw [hI.fresh τ hd]; trivial
theorem Inv.putL {g : G} {X : Nat → Prop} {m : Mem} {w : World} (hI : Inv g X m w) {l : Nat} {r : Loop} (hl : w.heap[l]? = some (.loop r)) (hn : ¬ Own g m l) (ob : Obj) : Inv g X m (w.putObj l ob) := by
  have hH : Holds w (okB X g m) (w.putObj l ob) (okB X g m) := fun b hb ⟨_, _, _, h⟩ => ⟨hb, World.putObj_heap_other (fun e => by subst e; rw [hl] at h; cases h)⟩
  refine ⟨fun τ => ?_, hI.inj, hI.far, fun b hb => by rw [World.putObj_size]; exact hI.xlt b hb, hI.fresh, hI.dlt⟩
  by_cases hd : g.dom τ
  · exact BOK_mono (GExt.refl g) hH hd (fun h1 h2 => World.putObj_heap_other (fun e => hn ⟨τ, ⟨h1, h2⟩, e⟩)) (hI.ok τ)
  · rw [hI.fresh τ hd]; trivial
theorem slots_RL {g : G} {w : World} {ok : Nat → Prop} {fr : Fr} {tmps : Array Value} (hf : FrOK g w ok fr tmps) : ∀ (sl : List Nat), RL g w ok (avList (sl.map fun t => fget t fr)) (sl.map fun t => tmps.getD t undef)
  | [] => rfl
  | t :: sl => ⟨_, _, rfl, hf t, slots_RL hf sl⟩
theorem DfOK.lt {b0 : Nat} {w : World} {ok : Nat → Prop} {ds : List Deferred} (h : DfOK b0 w ok ds) : ∀ d ∈ ds, d.target ≠ .collected w.heap.size := by
  intro d hd e
  have := lt_of_heap (h.at d hd _ e)
  omega
theorem exK_some {R : Type} {t : Int} {k : Nat → Option R} {r : R} : ∀ (l : List Nat), exK t k l = some r → ∃ i, t = natI (i + 2) ∧ k i = some r
  | [], h => by cases h
  | i :: l, h => by
    simp only [exK] at h
    cases hb : eqI t (natI (i + 2)) with
    | true => rw [hb] at h; exact ⟨i, by simpa [eqI] using hb, h⟩
    | false => rw [hb] at h; exact exK_some l h
theorem range_sound {f : Operand} {ps : Array Tmp} {as body : Code} {id nt pin : Nat} (hrt : rtOf P id = some ⟨ps, as, body, nt⟩) {fx : List (FuncId × List FuncId × Spec)} (hfx : ∀ f cl s, fxget f cl fx = some s → Sound P f s) (slots exs : List Nat) :
    CSound P ⟨nt, pin, true⟩ (.rangeFunc f ps as body) (rangeSpec f id slots exs fx) := by
  intro R fr m g k r X E a w hE hrun hst
  simp only [rangeSpec] at hrun
  split at hrun
  · rename_i gf cap hv
    split at hrun
    · rename_i l2 hl2
      split at hrun
      · rename_i s hs
        have hS := hfx _ _ _ hs
        obtain ⟨_, ⟨fn, e1, e2, e3⟩, hcall⟩ := hS
        refine wpIn_rangeFunc (fun fid _ => ?_)
        have hrd : E.rd = none := hE.rd rfl
        rw [show (FR E.rd).round = none from hrd]
        have hx := ev_ok hst.fr f
        rw [hv] at hx
        obtain ⟨fs, ks, q1, q2, q3⟩ := hx.2 rfl
        have q1 : fs = [] := q1
        subst q1
        have q3 : a.eval f = .func (.func gf) #[] ks.toArray := by have := (List.cons.inj q3).1; simpa using this
        -- the two blocks
        obtain ⟨hIa, hxa⟩ := hst.inv.grow (.deferred (some []))
        let rec0 : Loop := { state := .ready, pending := none, fn := fid, tmps := a.tmps, params := ps, assign := as, body := body, defers := w.heap.size }
        let L : Loc := ⟨w.heap.size + 1, 0, 0, 0, false⟩
        have hsa : (w.alloc (.deferred (some []))).heap.size = w.heap.size + 1 := by simp
        generalize hwa : w.alloc (.deferred (some [])) = wa at *
        have hfra : FrOK g wa (okB X g m) fr a.tmps := FrOK.mono (GExt.refl g) hxa.holds hst.fr
        have hxb : Ext g m wa (g.new L) ((g.n, .lp id slots (avList (slots.map fun t => fget t fr)) 0) :: m) (wa.alloc (.loop rec0)) := Ext.alloc hIa _ _ L (by rw [hsa])
        have hnewl : (wa.alloc (.loop rec0)).heap[w.heap.size + 1]? = some (.loop rec0) := by
          have := World.alloc_heap_new wa (.loop rec0); rwa [hsa] at this
        have hfrb : FrOK (g.new L) (wa.alloc (.loop rec0)) (okB X (g.new L) ((g.n, .lp id slots (avList (slots.map fun t => fget t fr)) 0) :: m)) fr a.tmps := FrOK.mono hxb.gx hxb.holds hfra
        have hlocL : (g.new L).loc g.n = L := G.new_self g L
        have hIb : Inv (g.new L) X ((g.n, .lp id slots (avList (slots.map fun t => fget t fr)) 0) :: m) (wa.alloc (.loop rec0)) := by
          refine hIa.alloc _ _ L (by rw [hsa]) ?_
          refine ⟨by rw [hlocL], ⟨ps, as, body, nt⟩, fid, a.tmps, w.heap.size, .ready, none, _, ?_, by rw [hlocL]; exact hnewl, hst.size.trans hE.nt, slots_RL hfrb slots, rfl, .inl ⟨rfl, rfl, rfl⟩⟩
          show (g.new L).rt id = _
          rw [show (g.new L).rt = g.rt from rfl, hst.rt, hE.rt, hrt]
        have hdD : (wa.alloc (.loop rec0)).heap[w.heap.size]? = some (.deferred (some [])) := by
          have h1 : wa.heap[w.heap.size]? = some (.deferred (some [])) := by rw [← hwa]; exact World.alloc_heap_new w _
          show (wa.heap.push _)[w.heap.size]? = _
          rw [Array.getElem?_push, if_neg (by omega)]; exact h1
        generalize hwb : wa.alloc (.loop rec0) = wb at *
        generalize hmb : (g.n, Blk.lp id slots (avList (slots.map fun t => fget t fr)) 0) :: m = mb at *
        have hyl : RV (g.new L) wb (okB X (g.new L) mb) (.yl g.n) (.func (.yield (w.heap.size + 1)) #[] #[]) := ⟨fun h => (by cases h), fun _ => ⟨.inr rfl, by rw [hlocL]⟩⟩
        have hks : ArgsOK (g.new L) wb (okB X (g.new L) mb) l2 ks := (listAV_ok cap l2 ks hl2 q2).mono (hxa.gx.trans hxb.gx) (fun b hb hc => by
          obtain ⟨h1, h2⟩ := hxa.holds (X := X) b hb hc
          obtain ⟨c, e, f', h3⟩ := hc
          obtain ⟨h4, h5⟩ := hxb.holds (X := X) b h1 ⟨c, e, f', h2.trans h3⟩
          exact ⟨h4, h5.trans h2⟩)
        have hcalls := hcall _ mb (g.new L) _ _ r X wb _ hrun hIb (show g.rt = rtOf P from hst.rt.trans hE.rt) (show ArgsOK _ _ _ (.yl g.n :: l2) (_ :: ks) from ⟨hyl, hks⟩)
        have e5 : fn.body.isNone = false := by rw [Option.isNone_eq_false_iff]; exact e2
        have e6 : (fn.name == "runtime.NumGoroutine") = false := by simpa using e3
        refine ⟨w.heap.size + 1, [{ target := .collected w.heap.size, args := #[] }], wb, { target := .fn (.func gf) ks.toArray, args := #[.func (.yield (w.heap.size + 1)) #[] #[]] }, wb, gf,
          (Value.func (.yield (w.heap.size + 1)) #[] #[] :: ks).toArray, wb, ?_, ?_, fun _ _ => trivial, ?_, fun h => (by cases h), ?_⟩
        · rw [run_enterLoop_outer, hwa, hwb]
        · simp only [resolve, q3]
          simp [go_sem]
        · simp only [invoke, callFunc]
          simp [go_sem, e1, e6, e5, run_program]
          rw [if_neg e3, if_neg (by intro h; rw [h] at e2; cases e2)]
        · have hcI : CallsIn (FR E.rd) (0 - 1) P gf _ wb _ := callsIn_wide.2 hcalls
          refine hcI.mono fun e w2 hpost => ?_
          have hxx : Ext g m w (g.new L) mb wb := hxa.trans hxb
          rcases hpost with ⟨v, m2, g2, cv, rfl, k1, k2, k3, k4⟩ | ⟨v, m2, g2, cv, rfl, k1, k2, k3, k4⟩
          · simp only at k1
            have hdg : (g.new L).dom g.n := .inr rfl
            have hl2 := (k4.gx.2 g.n hdg)
            have hB := k2.ok g.n
            split at k1
            · rename_i id' sl' sv' t hmg
              rw [hmg] at hB
              obtain ⟨b1, rt, fn', tmps', D', st, pe, vs, b2, b3, b4, b5, b6, b7⟩ := hB
              rw [hl2.2, hlocL] at b3
              have hlv : Lv g2 m2 g.n := ⟨by rw [hmg]; rfl, b1⟩
              have hnb : st ≠ .busy := by
                rcases b7 with ⟨_, h, _⟩ | ⟨_, h, _⟩ | ⟨_, _, h, _⟩ <;> rw [h] <;> intro e <;> cases e
              have hblkl : (g2.loc g.n).blk = w.heap.size + 1 := by rw [hl2.2, hlocL]
              have hIk := k2.kill g.n (k2.lt (by rw [hmg]; intro e; cases e))
              have hxk : Ext g2 m2 w2 g2 ((g.n, .gone) :: m2) w2 := Ext.kill g.n
              have hno : ¬ Own g2 ((g.n, .gone) :: m2) (w.heap.size + 1) := by
                rintro ⟨σ, h1, h2⟩
                obtain ⟨h3, h4⟩ := Lv_drop rfl h1
                exact h4 (k2.inj σ g.n h3 hlv (by rw [h2, hblkl]))
              have hI3 := hIk.putL b3 hno (.loop { state := .exhausted, pending := pe, fn := fn', tmps := tmps', params := rt.ps, assign := rt.as, body := rt.body, defers := D' })
              have hend := run_endLoop (P := P) b3 hnb
              have hlt3 := lt_of_heap b3
              generalize hw3 : w2.putObj (w.heap.size + 1) (.loop { state := .exhausted, pending := pe, fn := fn', tmps := tmps', params := rt.ps, assign := rt.as, body := rt.body, defers := D' }) = w3 at *
              have hs3 : w3.heap.size = w2.heap.size := by rw [← hw3]; exact World.putObj_size
              have hx3 : Ext g m w g2 ((g.n, .gone) :: m2) w3 := by
                have h1 := (hxx.trans k4).trans hxk
                refine ⟨h1.gx, h1.nw, by rw [hs3]; exact h1.size, fun b hb hn => ?_, h1.own, ?_, ?_, ?_⟩
                · rw [← hw3, World.putObj_heap_other (by omega)]; exact h1.keep b hb hn
                · rw [← hw3]; exact h1.os
                · rw [← hw3]; exact h1.tape
                · rw [← hw3]; exact h1.output
              have hfr3 : FrOK g2 w3 (okB X g2 ((g.n, .gone) :: m2)) fr a.tmps := FrOK.mono hx3.gx hx3.holds hst.fr
              have hownD : ¬ Own g2 ((g.n, .gone) :: m2) w.heap.size := by
                intro h
                have h1 := (hxk.own _ h)
                rcases h1 with h1 | h1
                · rcases k4.own _ h1 with h2 | h2
                  · rcases hxx.own _ h2 with h3 | h3
                    · obtain ⟨σ, p1, p2⟩ := h3
                      have := hst.inv.heap_lt p1; omega
                    · obtain ⟨σ, p1, p2⟩ := h2
                      by_cases e : σ = g.n
                      · subst e; rw [hlocL] at p2; simp [L] at p2
                      · rw [g.new_old L e] at p2
                        have := hst.inv.heap_lt (Lv_new (by rw [← hmb] at p1; exact p1) e); omega
                  · have h4 := hxb.size
                    have : w.heap.size + 1 ≤ wb.heap.size := by omega
                    omega
                · have h4 := k4.size
                  have h5 := hxb.size
                  omega
              have hDw : w3.heap[w.heap.size]? = some (.deferred (some [])) := by
                rw [← hw3, World.putObj_heap_other (by omega)]
                have h5 := hxb.size
                rw [k4.keep w.heap.size (by omega) (fun ⟨σ, p1, p2⟩ => ?_)]
                · exact hdD
                · by_cases e : σ = g.n
                  · subst e; rw [hlocL] at p2; simp [L] at p2
                  · rw [g.new_old L e] at p2
                    have := hst.inv.heap_lt (Lv_new (by rw [← hmb] at p1; exact p1) e); omega
              have hstF : StOK g2 X E fr ((g.n, .gone) :: m2) { a with defers := [{ target := .collected w.heap.size, args := #[] }] ++ a.defers } w3 := by
                refine ⟨hI3, hfr3, hst.size, ⟨⟨w.heap.size, rfl, hst.b0, ⟨fun h => ?_, hownD⟩, hDw, hst.defers.lt⟩, hst.defers.mono hx3.stays⟩, hx3.gx.1.2.trans hst.rt, Nat.le_trans hst.b0 hx3.size⟩
                have := hst.inv.xlt _ h; omega
              refine ⟨pe, w3, hend, ?_⟩
              rcases b7 with ⟨rfl, _, rfl⟩ | ⟨rfl, _, rfl⟩ | ⟨i, rfl, _, rfl⟩
              · exact ⟨.normal, fr, _, g2, rfl, k1, hstF, hx3.to0⟩
              · exact wpIn_ret ⟨.ret, fr, _, g2, rfl, k1, hstF, hx3.to0⟩
              · have e0 : eqI (2 + (i : Int)) 0 = false := by unfold eqI; simp; omega
                have e1' : eqI (2 + (i : Int)) 1 = false := by unfold eqI; simp; omega
                rw [e0, e1'] at k1
                obtain ⟨j, hj, k1⟩ := exK_some exs k1
                have hij : i = j := by unfold natI at hj; omega
                subst hij
                exact wpIn_exit ⟨.exit i, fr, _, g2, rfl, k1, hstF, hx3.to0⟩
            · cases k1
          · cases k1
      · cases hrun
    · cases hrun
  · cases hrun
end
end Go.Proofs.Ytkeolcgggondnaa.VX
