/- The engine, part 12: functions that compute data out of data. -/
import Derived.Test.YtkeolcgggondnaaVxE
import Derived.RangeFuncLeaves
set_option linter.unusedVariables false
set_option linter.unusedSimpArgs false
namespace Go.Proofs.Ytkeolcgggondnaa.VX
theorem RdL_free {α : Type} {R S : α → List Value → Prop} (h : ∀ x cs, R x cs → S x cs) (xs : List α) (cs : List Value) : RdL R xs cs → RdL S xs cs := RdL_mono h xs cs
theorem Rd_free {w w' : World} {ok ok' : Nat → Prop} : ∀ (t : Ty) (x : t.T) (cs : List Value), t.hasSlice = false → Rd w ok t x cs → Rd w' ok' t x cs
  | .int k, n, cs, _, h1 => h1
  | .bool, b, cs, _, h1 => h1
  | .str, s, cs, _, h1 => h1
  | .pair a b, x, cs, hs, ⟨c1, c2, e, h1, h2⟩ => by
    simp only [Ty.hasSlice, Bool.or_eq_false_iff] at hs
    exact ⟨c1, c2, e, Rd_free a _ _ hs.1 h1, Rd_free b _ _ hs.2 h2⟩
  | .one a, x, cs, hs, h1 => Rd_free a x cs hs h1
  | .slice t, l, cs, hs, _ => by cases hs
  | .arr n t, l, cs, hs, ⟨hl, h1⟩ => ⟨hl, RdL_mono (fun x cs => Rd_free t x cs hs) _ _ h1⟩
theorem RV_free {g g' : G} {w w' : World} {ok ok' : Nat → Prop} {t : Ty} {x : t.T} {cv : Value} (hs : t.hasSlice = false) (h : RV g w ok (.d t x) cv) : RV g' w' ok' (.d t x) cv :=
  ⟨fun e => let ⟨ds, e1, e2⟩ := h.1 e; ⟨ds, e1, Rd_free t x ds hs e2⟩, fun e => Rd_free t x _ hs (h.2 e)⟩
theorem RV_data_any {g g' : G} {w : World} {ok : Nat → Prop} {t : Ty} {x : t.T} {cv : Value} (h : RV g w ok (.d t x) cv) : RV g' w ok (.d t x) cv :=
  ⟨fun e => let ⟨ds, e1, e2⟩ := h.1 e; ⟨ds, e1, e2⟩, fun e => h.2 e⟩
def DataArgs (w : World) (ok : Nat → Prop) : (ts : List Ty) → HL ts → List Value → Prop
  | [], _, vs => vs = []
  | [t], x, vs => ∃ v, vs = [v] ∧ ∀ g, RV g w ok (.d t x) v
  | t :: u :: l, x, vs => ∃ v vs', vs = v :: vs' ∧ (∀ g, RV g w ok (.d t x.1) v) ∧ DataArgs w ok (u :: l) x.2 vs'
theorem toHL_cons {m : Mem} {t u : Ty} {l : List Ty} {v : AV} {vs : List AV} {x : t.T × HL (u :: l)} (h : toHL m (t :: u :: l) (v :: vs) = some x) : ∃ y z, v.data m t = some y ∧ toHL m (u :: l) vs = some z ∧ x = (y, z) := by
  have h' : (match v.data m t, toHL m (u :: l) vs with | some x, some y => some (x, y) | _, _ => none) = some x := h
  split at h'
  · rename_i y z h1 h2; exact ⟨y, z, h1, h2, (Option.some.inj h').symm⟩
  · cases h'
theorem toHL_ok {g : G} {w : World} {ok : Nat → Prop} {m : Mem} (hf : ∀ τ, BOK g w ok τ (mget τ m)) : ∀ (ts : List Ty) (args : List AV) (vs : List Value) (x : HL ts), toHL m ts args = some x → ArgsOK g w ok args vs → DataArgs w ok ts x vs
  | [], [], [], x, h, _ => rfl
  | [t], [v], [cv], x, h, ⟨h1, _⟩ => ⟨cv, rfl, fun g' => RV_data_any (data_rv hf h (data_agg h) h1)⟩
  | t :: u :: l, v :: vs, cv :: cvs, x, h, ⟨h1, h2⟩ => by
    obtain ⟨y, z, hy, hz, rfl⟩ := toHL_cons h
    exact ⟨cv, cvs, rfl, fun g' => RV_data_any (data_rv hf hy (data_agg hy) h1), toHL_ok hf (u :: l) vs cvs z hz h2⟩
  | [], _ :: _, _, x, h, _ => by cases h
  | [t], [], _, x, h, _ => by cases h
  | [t], _ :: _ :: _, _, x, h, _ => by cases h
  | t :: u :: l, [], _, x, h, _ => by cases h
  | [], [], _ :: _, x, h, h2 => h2.elim
  | [t], [v], [], x, h, h2 => h2.elim
  | [t], [v], _ :: _ :: _, x, h, ⟨_, h2⟩ => h2.elim
  | t :: u :: l, v :: vs, [], x, h, h2 => h2.elim
theorem DataArgs.args {w : World} {ok : Nat → Prop} (g : G) : ∀ (ts : List Ty) (x : HL ts) (vs : List Value), DataArgs w ok ts x vs → ArgsOK g w ok (ofHL ts x) vs
  | [], x, vs, h => by cases h; trivial
  | [t], x, vs, ⟨v, e, h⟩ => by subst e; exact ⟨h g, trivial⟩
  | t :: u :: l, x, vs, ⟨v, vs', e, h1, h2⟩ => by subst e; exact ⟨h1 g, DataArgs.args g (u :: l) x.2 vs' h2⟩
theorem DataArgs.length {w : World} {ok : Nat → Prop} : ∀ (ts : List Ty) (x : HL ts) (vs : List Value), DataArgs w ok ts x vs → vs.length = ts.length
  | [], x, vs, h => by cases h; rfl
  | [t], x, vs, ⟨v, e, h⟩ => by subst e; rfl
  | t :: u :: l, x, vs, ⟨v, vs', e, h1, h2⟩ => by subst e; simp [DataArgs.length (u :: l) x.2 vs' h2]
theorem DataArgs.mono {w w' : World} {ok ok' : Nat → Prop} (hh : Holds w ok w' ok') : ∀ (ts : List Ty) (x : HL ts) (vs : List Value), DataArgs w ok ts x vs → DataArgs w' ok' ts x vs
  | [], x, vs, h => h
  | [t], x, vs, ⟨v, e, h⟩ => ⟨v, e, fun g => RV_mono (GExt.refl g) hh (h g)⟩
  | t :: u :: l, x, vs, ⟨v, vs', e, h1, h2⟩ => ⟨v, vs', e, fun g => RV_mono (GExt.refl g) hh (h1 g), DataArgs.mono hh (u :: l) x.2 vs' h2⟩
theorem DataArgs.free {w w' : World} {ok ok' : Nat → Prop} : ∀ (ts : List Ty) (x : HL ts) (vs : List Value), hasSl ts = false → DataArgs w ok ts x vs → DataArgs w' ok' ts x vs
  | [], x, vs, _, h => h
  | [t], x, vs, hs, ⟨v, e, h⟩ => by
    simp only [hasSl, Bool.or_false] at hs
    exact ⟨v, e, fun g => RV_free hs (h g)⟩
  | t :: u :: l, x, vs, hs, ⟨v, vs', e, h1, h2⟩ => by
    rw [hasSl, Bool.or_eq_false_iff] at hs
    exact ⟨v, vs', e, fun g => RV_free hs.1 (h1 g), DataArgs.free (u :: l) x.2 vs' hs.2 h2⟩
theorem RL_ofArgs {g : G} {w : World} {ok : Nat → Prop} : ∀ (l : List AV) (vs : List Value), ArgsOK g w ok l vs → RL g w ok (avList l) vs
  | [], [], _ => rfl
  | a :: l, v :: vs, ⟨h1, h2⟩ => ⟨v, vs, rfl, h1, RL_ofArgs l vs h2⟩
  | [], _ :: _, h => h.elim
  | _ :: _, [], h => h.elim
/-- What results are made of. -/
def resVal : List Value → Value
  | [v] => v
  | vs => .tuple vs.toArray
theorem resAV_ok {g : G} {w : World} {ok : Nat → Prop} (rs : List Ty) (x : HL rs) (vs : List Value) (h : DataArgs w ok rs x vs) : RV g w ok (resAV rs x) (resVal vs) := by
  have ha := h.args g
  match rs, x, h, ha with
  | [], x, h, ha => cases h; exact ⟨fun e => (by cases e), fun _ => ⟨[], rfl, rfl⟩⟩
  | [t], x, h, ha => obtain ⟨v, e, h3⟩ := h; subst e; exact h3 g
  | t :: u :: l, x, h, ha =>
    obtain ⟨v, vs', e, h1, h2⟩ := h
    subst e
    have hne : ∃ v2 vs2, vs' = v2 :: vs2 := by
      cases l with
      | nil => obtain ⟨v2, e2, _⟩ := h2; exact ⟨v2, [], e2⟩
      | cons u2 l2 => obtain ⟨v2, vs2, e2, _⟩ := h2; exact ⟨v2, vs2, e2⟩
    obtain ⟨v2, vs2, rfl⟩ := hne
    refine ⟨fun e => (by cases e), fun _ => ⟨v :: v2 :: vs2, RL_ofArgs _ _ ha, rfl⟩⟩
/-- A frame at first. -/
def initFr : Nat → List AV → Fr
  | _, [] => []
  | n, a :: l => (n, a) :: initFr (n + 1) l
theorem initFr_ok {g : G} {w : World} {ok : Nat → Prop} : ∀ (l : List AV) (vs : List Value) (n : Nat) (tmps : Array Value), ArgsOK g w ok l vs → (∀ i v, vs[i]? = some v → tmps.getD (n + i) undef = v) → FrOK g w ok (initFr n l) tmps
  | [], [], n, tmps, _, _ => fun t => RV_dead _ _ _ _
  | a :: l, v :: vs, n, tmps, ⟨h1, h2⟩, h => by
    intro t
    show RV g w ok (fget t ((n, a) :: initFr (n + 1) l)) _
    rw [fget_cons]
    split
    · rename_i e; subst e
      have := h 0 v rfl
      rw [Nat.add_zero] at this
      rw [this]; exact h1
    · exact initFr_ok l vs (n + 1) tmps h2 (fun i u hu => by have := h (i + 1) u (by simpa using hu); rw [← this]; congr 1; omega) t
  | [], _ :: _, _, _, h, _ => h.elim
  | _ :: _, [], _, _, h, _ => h.elim
/-- The values of a function's results. -/
def resVals (C : Ctx) (fr : Fr) (m : Mem) : List ResultVar → Option (List AV)
  | [] => some []
  | .tmp t :: l => match resVals C fr m l with
    | some vs => some (fget t fr :: vs)
    | none => none
  | .cell a t :: l => match tget t C.tb with
    | some i => match loadA m some (fget a fr) with
      | some v => bif Nat.beq v.size i.size && (v.isAgg == i.agg) then match resVals C fr m l with
        | some vs => some (v :: vs)
        | none => none else none
      | none => none
    | none => none
def retK (C : Ctx) (rv : List ResultVar) (rs : List Ty) : Ex → Fr → Mem → Nat → Option (HL rs)
  | .normal, fr, m, _ => match resVals C fr m rv with
    | some l => toHL (frzL (toksL l) m) rs l
    | none => none
  | .ret, fr, m, _ => match resVals C fr m rv with
    | some l => toHL (frzL (toksL l) m) rs l
    | none => none
  | _, _, _, _ => none
section
variable {P : Program} {C : Ctx}
theorem loadA_at {g : G} {X : Nat → Prop} {m : Mem} {w : World} (hI : Inv g X m w) {x : AV} {cv : Value} (hx : RV g w (okB X g m) x cv) {v : AV} (h : loadA m some x = some v) :
    ∃ b off cs, cv = .pointer (some ⟨b, off, none⟩) ∧ RC g w (okB X g m) v cs ∧ ∀ j u, cs[j]? = some u → w.cell? ⟨b, off + j, none⟩ = some u := by
  cases x with
  | ptr τ p =>
    obtain ⟨h1, h2, h3⟩ := ptr_get hx
    simp only [loadA] at h
    have hB := hI.ok τ
    cases hm : mget τ m with
    | var y =>
      rw [hm] at h hB
      simp only at h
      obtain ⟨hb0, hs, hnn, c, e, hh, hv⟩ := hB
      cases hgv : y.get p with
      | none => rw [hgv] at h; cases h
      | some z =>
        rw [hgv] at h; cases h
        obtain ⟨c0, c1, c2, e1, e2, e3⟩ := get_ok p y _ hgv h2 _ hv
        refine ⟨_, _, c1, h3, e3, fun j u hu => ?_⟩
        simp only [World.cell?, hh, hb0, Nat.zero_add]
        have : c.toList[Path.off p + j]? = some u := by
          rw [e1, ← e2, List.append_assoc, List.getElem?_append_right (by omega), Nat.add_sub_cancel_left, List.getElem?_append_left (by have := (List.getElem?_eq_some_iff.1 hu).1; exact this)]
          exact hu
        simpa using this
    | row t' xs =>
      rw [hm] at h hB
      simp only at h
      cases p with
      | nil => cases h
      | cons s q =>
        cases s with
        | row j sz =>
          simp only at h
          obtain ⟨hb, h'⟩ := bif_some h
          clear h
          have hsz := Nat.eq_of_beq_eq_true hb
          subst hsz
          cases hgv : (AV.d t' (getAt t'.zero xs j)).get q with
          | none => rw [hgv] at h'; cases h'
          | some y =>
            rw [hgv] at h'; cases h'
            obtain ⟨b1, b2, b0⟩ := hB
            have hj : j < xs.length := by rw [b1]; exact h2 (.row j t'.size) (by simp)
            obtain ⟨b7, c, e, cells, b3, b4, b5, b6⟩ := b0.resolve_left (fun h => by omega)
            have hR := fun x cs h => Rd_len w (okB X g m) t' x cs h
            have hat := RdL_at hR xs cells b4 j t'.zero hj
            obtain ⟨c0, c1, c2, e1, e2, e3⟩ := get_ok (g := g) (n := (g.loc τ).len) q (.d t' (getAt t'.zero xs j)) _ hgv (fun s hs => h2 s (by simp [hs])) _ hat
            refine ⟨_, _, c1, h3, e3, fun jj u hu => ?_⟩
            have hjl : jj < c1.length := (List.getElem?_eq_some_iff.1 hu).1
            have k1 : cells[j * t'.size + (Path.off q + jj)]? = some u := by
              have k2 : ((cells.drop (j * t'.size)).take t'.size)[Path.off q + jj]? = some u := by
                rw [e1, ← e2, List.append_assoc, List.getElem?_append_right (by omega), Nat.add_sub_cancel_left, List.getElem?_append_left hjl]
                exact hu
              rw [List.getElem?_take] at k2
              split at k2
              · rw [List.getElem?_drop] at k2; exact k2
              · cases k2
            have k3 := b5 _ _ k1
            simp only [World.cell?, b3]
            simp only [Path.off, Sel.off]
            rw [show (g.loc τ).base + (j * t'.size + Path.off q) + jj = (g.loc τ).base + (j * t'.size + (Path.off q + jj)) by omega]
            simpa using k3
        | _ => cases h
    | _ => rw [hm] at h; cases h
  | pv t' y =>
    cases h
    obtain ⟨ad, cells, e1, e2, e3⟩ := hx.2 rfl
    obtain ⟨b, off, rfl, hc⟩ := seg_cell e3
    exact ⟨b, off, cells, (List.cons.inj e1).1, e2, hc⟩
  | _ => cases h
def resStep (tmps : Array Value) (x : ResultVar) : Sem Value :=
  match x with
  | .tmp t => Pure.pure (tmps.getD t undef)
  | .cell a t => do loadVar t (← asAddr (tmps.getD a undef))
theorem resVals_ok {g : G} {X : Nat → Prop} {m : Mem} {w : World} (hC : CtxOK P C) (hI : Inv g X m w) {fr : Fr} {tmps : Array Value} (hf : FrOK g w (okB X g m) fr tmps) : ∀ (rv : List ResultVar) (l : List AV), resVals C fr m rv = some l →
    ∃ vs, (rv.mapM (resStep tmps)).run P w = .ok vs w ∧ ArgsOK g w (okB X g m) l vs
  | [], l, h => by cases h; exact ⟨[], by simp, trivial⟩
  | .tmp t :: rv, l, h => by
    simp only [resVals] at h
    split at h
    · rename_i vs hvs
      cases h
      obtain ⟨us, h1, h2⟩ := resVals_ok hC hI hf rv vs hvs
      exact ⟨tmps.getD t undef :: us, by rw [List.mapM_cons]; simp only [resStep, Sem.run_bind, Sem.run_pure, Result.andThen_ok, h1], hf t, h2⟩
    · cases h
  | .cell ad t :: rv, l, h => by
    simp only [resVals] at h
    split at h
    · rename_i i hi
      split at h
      · rename_i v hv
        obtain ⟨hb, h'⟩ := bif_some h
        clear h
        rw [Bool.and_eq_true] at hb
        split at h'
        · rename_i vs hvs
          cases h'
          obtain ⟨us, h1, h2⟩ := resVals_ok hC hI hf rv vs hvs
          obtain ⟨b, off, cs, e1, e2, e3⟩ := loadA_at hI (hf ad) hv
          have hag := beq_bool hb.2
          obtain ⟨cv, k1, k2, k3⟩ := run_loadVar (hC.tb _ _ hi) w b off cs (by rw [RC_len v cs e2]; exact Nat.eq_of_beq_eq_true hb.1) (len_one hag e2) e3
          refine ⟨cv :: us, ?_, RV_of_cells hag k2 k3 e2, h2⟩
          rw [List.mapM_cons]
          have hst : (resStep tmps (.cell ad t)).run P w = .ok cv w := by simp only [resStep, Sem.run_bind, Sem.run_pure, Result.andThen_ok, e1, asAddr, k1]
          simp only [Sem.run_bind, Sem.run_pure, Result.andThen_ok, h1, hst]
        · cases h'
      · cases h
    · cases h
theorem run_results {fn : Func} {tmps : Array Value} {w : World} {vs : List Value} (h : (fn.results.toList.mapM (resStep tmps)).run P w = .ok vs w) : (results fn tmps).run P w = .ok (resVal vs) w := by
  have e : results fn tmps = (do let vs ← fn.results.mapM (resStep tmps); Pure.pure (if h : vs.size = 1 then vs[0] else .tuple vs)) := rfl
  rw [e, Array.mapM_eq_mapM_toList]
  simp only [Sem.run_bind, Sem.run_map, h, Result.andThen_ok, Sem.run_pure]
  match vs with
  | [] => rfl
  | [v] => rfl
  | v :: u :: l => simp [resVal]
/-- Marks alone are taken. -/
structure DSame (b0 : Nat) (w w' : World) : Prop where
  size : w'.heap.size = w.heap.size
  old : ∀ b : Nat, b < b0 → w'.heap[b]? = w.heap[b]?
  same : ∀ b : Nat, w.heap[b]? ≠ some (Obj.deferred (some [])) → w'.heap[b]? = w.heap[b]?
  os : w'.os = w.os
  tape : w'.tape = w.tape
  output : w'.output = w.output
theorem DSame.refl (b0 : Nat) (w : World) : DSame b0 w w := ⟨rfl, fun _ _ => rfl, fun _ _ => rfl, rfl, rfl, rfl⟩
theorem DSame.put {b0 : Nat} {w : World} {D : Nat} (h1 : b0 ≤ D) (h2 : w.heap[D]? = some (.deferred (some []))) : DSame b0 w (w.putObj D (.deferred none)) :=
  ⟨World.putObj_size, fun b hb => World.putObj_heap_other (by omega), fun b hb => World.putObj_heap_other (fun e => hb (e ▸ h2)), rfl, rfl, rfl⟩
theorem DSame.then {b0 : Nat} {w w' : World} (h : DSame b0 w w') {D : Nat} (h1 : b0 ≤ D) (h2 : w'.heap[D]? = some (.deferred (some []))) (h3 : w.heap[D]? = some (.deferred (some []))) : DSame b0 w (w'.putObj D (.deferred none)) :=
  ⟨World.putObj_size.trans h.size, fun b hb => (World.putObj_heap_other (by omega)).trans (h.old b hb), fun b hb => (World.putObj_heap_other (fun e => hb (by rw [e]; exact h3))).trans (h.same b hb), h.os, h.tape, h.output⟩
theorem DSame.holds {b0 : Nat} {w w' : World} (h : DSame b0 w w') (ok : Nat → Prop) : Holds w ok w' ok := fun b hb ⟨_, _, _, h1⟩ => ⟨hb, h.same b (by rw [h1]; intro e; cases e)⟩
theorem DSame.inv {b0 : Nat} {w w' : World} (h : DSame b0 w w') {g : G} {X : Nat → Prop} {m : Mem} (hI : Inv g X m w) : Inv g X m w' := by
  refine ⟨fun τ => ?_, hI.inj, hI.far, fun b hb => by rw [h.size]; exact hI.xlt b hb, hI.fresh, hI.dlt⟩
  by_cases hd : g.dom τ
  · refine BOK_mono (GExt.refl g) (h.holds _) hd (fun h1 h2 => h.same _ (fun e => ?_)) (hI.ok τ)
    have hB := hI.ok τ
    generalize mget τ m = B at *
    cases B with
    | var v => obtain ⟨_, _, _, c, e', h3, _⟩ := hB; rw [e] at h3; cases h3
    | row t xs =>
      obtain ⟨_, _, h0⟩ := hB
      rcases h0 with ⟨h0, _⟩ | ⟨_, c, e', cells, h3, _⟩
      · rw [h2] at h0; cases h0
      · rw [e] at h3; cases h3
    | mp kt vt l => obtain ⟨_, es, h3, _⟩ := hB; rw [e] at h3; cases h3
    | lp id sl sv tag => obtain ⟨_, rt, fn, tmps, D, st, pe, vs, _, h3, _⟩ := hB; rw [e] at h3; cases h3
    | fm ks vs => obtain ⟨_, es, cvs, h3, _⟩ := hB; rw [e] at h3; cases h3
    | _ => cases h1
  · rw [hI.fresh τ hd]; trivial
theorem DSame.ext {b0 : Nat} {w0 w w' : World} (h : DSame b0 w w') (hb : w0.heap.size ≤ b0) {p : Nat} {g g' : G} {m m' : Mem} (hx : Ext0 p g m w0 g' m' w) : Ext0 p g m w0 g' m' w' :=
  ⟨hx.rt, hx.pin, by rw [h.size]; exact hx.size, fun b h1 h2 => (h.old b (by omega)).trans (hx.keep b h1 h2), hx.own, h.os.trans hx.os, h.tape.trans hx.tape, h.output.trans hx.output⟩
/-- Leaving a function, with marks alone among the deferred calls. -/
theorem leaves_marks {P : Program} {fn : Func} {tmps : Array Value} {R : Ending → World → Prop} {b0 : Nat} {ok : Nat → Prop} {u : FrameMode} (hu : u ≠ .run) {w : World} : ∀ (ds : List Deferred) (w1 : World), DfOK b0 w1 ok ds → DSame b0 w w1 →
    (∀ d ∈ ds, ∀ D, d.target = .collected D → w.heap[D]? = some (.deferred (some []))) →
    (∀ w2, DSame b0 w w2 → LeavesIn Fence.wide 0 P fn tmps R [] u w2) → LeavesInM Fence.wide 0 P fn tmps R ds u w1
  | [], w1, _, h2, _, h3 => h3 w1 h2
  | d :: ds, w1, ⟨⟨D, k1, k2, k3, k4, k5⟩, h1⟩, h2, h4, h3 => by
    subst k1
    refine ⟨hu, .inl ⟨D, _, rfl, run_takeDeferred k4, ?_⟩⟩
    refine leaves_marks hu ds _ (DfOK_put ds h1 k5) (h2.then k2 k4 (h4 _ (List.mem_cons_self ..) D rfl)) (fun d hd => h4 d (List.mem_cons_of_mem _ hd)) h3
where
  DfOK_put {b0 : Nat} {w1 : World} {ok : Nat → Prop} {D : Nat} : ∀ (ds : List Deferred), DfOK b0 w1 ok ds → (∀ d' ∈ ds, d'.target ≠ .collected D) → DfOK b0 (w1.putObj D (.deferred none)) ok ds
  | [], _, _ => trivial
  | d :: ds, ⟨⟨D', k1, k2, k3, k4, k5⟩, h1⟩, h => by
    refine ⟨⟨D', k1, k2, k3, ?_, k5⟩, DfOK_put ds h1 (fun d' hd => h d' (List.mem_cons_of_mem _ hd))⟩
    rw [World.putObj_heap_other (fun e => h d (List.mem_cons_self ..) (by rw [k1, e]))]
    exact k4
theorem DfOK.at {b0 : Nat} {w : World} {ok : Nat → Prop} : ∀ {ds : List Deferred}, DfOK b0 w ok ds → ∀ d ∈ ds, ∀ D, d.target = .collected D → w.heap[D]? = some (.deferred (some []))
  | d :: ds, ⟨⟨D, k1, k2, k3, k4, k5⟩, h1⟩, d', hd, D', e => by
    rcases List.mem_cons.1 hd with h | h
    · subst h; rw [k1] at e; cases e; exact k4
    · exact h1.at d' h D' e
theorem Spec.pure_uni (ts rs : List Ty) (F : HL ts → Option (HL rs)) : (Spec.pure ts rs F).Uni := by
  intro args m N R k kp r h
  left
  simp only [Spec.pure] at h ⊢
  split at h
  · rename_i x hx
    cases hF : F x with
    | none => rw [hF] at h; cases h
    | some y =>
      obtain ⟨δ, hδ⟩ := frzL_pre (toksL args) m
      cases hs : hasSl rs with
      | true => exact ⟨resAV rs y, δ, N, fun k' kp' => by simp only [Option.bind_some, cond_true, hδ]⟩
      | false => exact ⟨resAV rs y, [], N, fun k' kp' => by simp only [Option.bind_some, cond_false]; rfl⟩
  · cases h
/-- A function whose text, run abstractly, answers F. -/
theorem Sound.pure {f : FuncId} {fn : Func} {c : Code} (hf : P.funcs[f]? = some fn) (hb : fn.body = some c) (hn : fn.name ≠ "runtime.NumGoroutine") (hC : CtxOK P C) (hS : SumOK P C c) (hnt : fn.ntmps = C.nt) (hpin : C.pin = 0)
    (ts rs : List Ty) (hts : ts.length ≤ C.nt) (F : HL ts → Option (HL rs)) (heq : ∀ x, exec C c (initFr 0 (ofHL ts x)) [] 0 (retK C fn.results.toList rs) = F x) : Sound P f (Spec.pure ts rs F) := by
  refine ⟨Spec.pure_uni ts rs F, ⟨fn, hf, by rw [hb]; rfl, hn⟩, ?_⟩
  intro R args m g k kp r X w vs hrun hI hrt hargs
  simp only [Spec.pure] at hrun
  obtain ⟨hI1, hx1⟩ := Inv.frzL (toksL args) hI
  generalize hm1 : frzL (toksL args) m = m1 at *
  split at hrun
  · rename_i x hx
    have hd := toHL_ok (g := g) (w := w) (ok := okB X g m1) (fun τ => hI1.ok τ) ts args vs x hx (ArgsOK.mono hx1.gx hx1.holds hargs)
    cases hF : F x with
    | none => rw [hF] at hrun; cases hrun
    | some y =>
      rw [hF] at hrun
      have hrun : (bif hasSl rs then k (resAV rs y) m1 g.n else k (resAV rs y) m g.n) = some r := hrun
      let g0 : G := { loc := fun _ => default, n := 0, dom := fun _ => False, rt := g.rt }
      let E : Env := ⟨C.nt, 0, w.heap.size, none, rtOf P⟩
      have hE : EnvOK P C.ek E := ⟨rfl, hpin.symm, fun _ => rfl, rfl⟩
      let X' : Nat → Prop := fun b => X b ∨ Own g m1 b
      have hok : ∀ b, okB X g m1 b ↔ okB X' g0 [] b := by
        intro b
        constructor
        · rintro ⟨h1, h2⟩
          exact ⟨fun h => h.elim h1 h2, fun ⟨τ, h, _⟩ => (by cases h.1)⟩
        · rintro ⟨h1, h2⟩
          exact ⟨fun h => h1 (.inl h), fun h => h1 (.inr h)⟩
      have hI0 : Inv g0 X' [] w := by
        refine ⟨fun τ => trivial, fun τ τ' h => (by cases h.1), fun τ h => (by cases h.1), fun b hb => ?_, fun τ _ => rfl, fun τ h => h.elim⟩
        rcases hb with hb | ⟨τ, h1, h2⟩
        · exact hI1.xlt b hb
        · rw [← h2]; exact hI1.heap_lt h1
      have hh0 : Holds w (okB X g m1) w (okB X' g0 []) := fun b hb _ => ⟨(hok b).1 hb, rfl⟩
      have hargs0 : ArgsOK g0 w (okB X' g0 []) (ofHL ts x) vs := (DataArgs.mono hh0 ts x vs hd).args g0
      have hlen : vs.length = ts.length := hd.length
      have hexec := heq x
      rw [hF] at hexec
      have hgoal : CallsIn Fence.wide 0 P f vs.toArray w (CallPost X g m w k kp r) := by
        refine callsIn_of_wp_marks hf hb trivial ?_
        refine wpIn_mono (exec_ok hC hE c hS (initFr 0 (ofHL ts x)) [] g0 _ y X' { tmps := vs.toArray ++ Array.replicate (fn.ntmps - vs.toArray.size) undef, defers := [] } w hexec ⟨hI0, ?_, ?_, trivial, hrt, Nat.le_refl _⟩) ?_
        · refine initFr_ok _ vs 0 _ hargs0 (fun i v hv => ?_)
          have hi : i < vs.length := (List.getElem?_eq_some_iff.1 hv).1
          simp only [Nat.zero_add, Array.getD_eq_getD_getElem?]
          rw [Array.getElem?_append_left (by simpa using hi)]
          simp [hv]
        · show (vs.toArray ++ Array.replicate (fn.ntmps - vs.toArray.size) undef).size = C.nt
          simp [hlen, hnt]; omega
        · rintro e a' w' ⟨e', fr', m', g', q1, q2, q3, q4⟩
          have hmain : (∃ l, resVals C fr' m' fn.results.toList = some l ∧ toHL (frzL (toksL l) m') rs l = some y) → LeavesInM Fence.wide 0 P fn a'.tmps (CallPost X g m w k kp r) a'.defers .returning w' := by
            rintro ⟨l, hl, hy⟩
            refine leaves_marks (by intro e; cases e) a'.defers w' q3.defers (DSame.refl _ _) q3.defers.at (fun w2 hd2 => ?_)
            have q4 := hd2.ext (Nat.le_refl _) q4
            have hI2 := hd2.inv q3.inv
            have hfr2 : FrOK g' w2 (okB X' g' m') fr' a'.tmps := FrOK.mono (GExt.refl g') (hd2.holds _) q3.fr
            obtain ⟨us, u1, u2⟩ := resVals_ok hC hI2 hfr2 fn.results.toList l hl
            obtain ⟨hI2, hx2⟩ := Inv.frzL (toksL l) hI2
            have hd2 := toHL_ok (g := g') (w := w2) (ok := okB X' g' (frzL (toksL l) m')) (fun τ => hI2.ok τ) rs l us y hy (ArgsOK.mono hx2.gx hx2.holds u2)
            refine ⟨resVal us, run_results u1, .inl ?_⟩
            have hkeep : ∀ b, b < w.heap.size → w2.heap[b]? = w.heap[b]? := fun b hb => q4.keep b hb (fun ⟨τ, h, _⟩ => (by cases h.1))
            have back : ∀ {mm : Mem}, Inv g X mm w → Ext g m w g mm w → Inv g X mm w2 ∧ Ext g m w g mm w2 := by
              intro mm hIm hxm
              have hxx : Ext g mm w g mm w2 := ⟨GExt.refl g, fun _ h => .inl h, q4.size, fun b hb _ => hkeep b hb, fun b hb => .inl hb, q4.os, q4.tape, q4.output⟩
              refine ⟨hIm.step hxx (fun τ => ?_) hIm.inj hIm.far hIm.fresh hIm.dlt, hxm.trans hxx⟩
              by_cases hlt : g.dom τ
              · exact .inl ⟨hlt, rfl, fun hl => hkeep _ (hIm.heap_lt hl)⟩
              · right; rw [hIm.fresh τ hlt]; trivial
            cases hsl : hasSl rs with
            | true =>
              rw [hsl] at hrun
              obtain ⟨b1, b2⟩ := back hI1 hx1
              have hh2 : Holds w2 (okB X' g' (frzL (toksL l) m')) w2 (okB X g m1) := fun b hb _ => ⟨⟨fun h => hb.1 (.inl h), fun h => hb.1 (.inr h)⟩, rfl⟩
              exact ⟨resAV rs y, m1, g, resVal us, rfl, hrun, b1, resAV_ok rs y us (DataArgs.mono hh2 rs y us hd2), b2⟩
            | false =>
              rw [hsl] at hrun
              obtain ⟨b1, b2⟩ := back hI (Ext.refl _ _ _)
              exact ⟨resAV rs y, m, g, resVal us, rfl, hrun, b1, resAV_ok rs y us (DataArgs.free rs y us hsl hd2), b2⟩
          have hopt : ∀ (o : Option (List AV)), (match o with | some l => toHL (frzL (toksL l) m') rs l | none => none) = some y → ∃ l, o = some l ∧ toHL (frzL (toksL l) m') rs l = some y := by
            intro o ho
            cases o with
            | none => cases ho
            | some l => exact ⟨l, rfl, ho⟩
          cases e' with
          | normal => cases q1; exact hmain (hopt _ q2)
          | ret => cases q1; exact hmain (hopt _ q2)
          | exit i => cases q2
          | goto l => cases q2
          | panic v => cases q2
      exact callsIn_wide.1 hgoal
  · cases hrun
end
end Go.Proofs.Ytkeolcgggondnaa.VX
