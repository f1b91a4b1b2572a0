/- The engine, part 5: what is asked of types, and single operations that read and write. -/
import Derived.Test.YtkeolcgggondnaaVxM0
import Derived.RangeFuncRecord
import Derived.Laws.CopyRow
import Derived.Laws.Tables
set_option linter.unusedVariables false
set_option linter.unusedSimpArgs false
namespace Go.Proofs.Ytkeolcgggondnaa.VX

def isAggD : TypeDesc → Bool
  | .struct _ | .array _ _ => true
  | _ => false
structure TIok (P : Program) (t : TypeId) (i : TI) : Prop where
  desc : ∃ d, P.underlying t = some d ∧ isAggD d = i.agg
  info : ∃ f z, P.info? t = some f ∧ f.size = i.size ∧ f.zero = some z ∧ i.zero.sto = true ∧ z.cells.size = i.size ∧ ∀ g w ok, RV g w ok i.zero z
  build : 0 < i.flds.length → ∃ f z place, P.info? t = some f ∧ f.zero = some z ∧ (∀ parts, P.built t parts = Instr.fill place z.cells parts) ∧
    ∀ k, k < i.flds.length → place k = some ((getAt Sel.inn i.flds k).off, getAt 0 i.fsz k) ∧ ∀ n, (getAt Sel.inn i.flds k).ok n
  struct : i.kind = 1 → ∃ fs : Array Field, P.underlying t = some (.struct fs) ∧ ∀ k, k < i.flds.length → ∃ f fi d, fs[k]? = some f ∧ f.offset = (getAt Sel.inn i.flds k).off ∧ P.info? f.type = some fi ∧
    fi.size = getAt 0 i.fsz k ∧ fi.size ≠ 0 ∧ P.underlying f.type = some d ∧ isAggD d = getAt false i.fag k ∧ ∀ n, (getAt Sel.inn i.flds k).ok n
  slice : i.kind = 2 → ∃ e fi ez, P.underlying t = some (.slice e) ∧ P.info? e = some fi ∧ fi.size = i.ety.size ∧ fi.bytes = i.bytes ∧ fi.zero = some ez ∧ (∀ w ok, Rd w ok i.ety i.ety.zero ez.cells.toList) ∧ 0 < i.ety.size ∧ 0 < i.bytes
  array : i.kind = 3 ∨ i.kind = 4 → ∃ e fi d, P.underlying t = some (.array i.alen e) ∧ P.info? e = some fi ∧ fi.size = i.esz ∧ (i.kind = 4 → P.underlying e = some d ∧ isAggD d = getAt false i.fag 0 ∧
    ∀ j, j < i.flds.length → (getAt Sel.inn i.flds j).off = j * i.esz ∧ ∀ n, (getAt Sel.inn i.flds j).ok n)
  str : i.kind = 5 → P.underlying t = some .string
  map : i.kind = 6 → ∃ kt vt, P.underlying t = some (.map kt vt) ∧ (i.mky = true → KeyOK P kt i.kty ∧ ∃ fi ez, P.info? vt = some fi ∧ fi.zero = some ez ∧ ∀ g w ok, RV g w ok (.d i.ety i.ety.zero) ez) ∧
    (i.fmk = true → KeyOK P kt (.int .i64) ∧ ∃ fi ez, P.info? vt = some fi ∧ fi.zero = some ez ∧ ∀ g w ok, RV g w ok .nilf ez)
  notI : i.notI = true → ∃ d, P.underlying t = some d ∧ ∀ ms, d ≠ .interface ms
  ptra : i.kind = 7 → ∃ ar e, P.underlying t = some (.pointer ar) ∧ P.underlying ar = some (.array i.alen e)
  eq : i.eqk = true → P.eqGuardType P.depth t = false ∧ ∀ g w ok x y cx cy, RV g w ok (.d i.ty x) cx → RV g w ok (.d i.ty y) cy → (Op.equal t cx cy).run P w = .ok (i.ty.beq x y) w
  num : ∀ kd, i.kind = 8 → i.ty = .int kd → P.underlying t = some (.int kd)
section
variable {P : Program} {t : TypeId} {i : TI}
theorem run_isAgg (h : TIok P t i) (w : World) : (isAgg t).run P w = .ok i.agg w := by
  obtain ⟨d, h1, h2⟩ := h.desc
  unfold isAgg
  rw [Sem.run_bind, run_underlying h1 w]
  cases d <;> simp_all [isAggD]
theorem run_sizeOf (h : TIok P t i) (w : World) : (sizeOf t).run P w = .ok i.size w := by
  obtain ⟨f, z, h1, h2, _⟩ := h.info
  simp [sizeOf, typeInfo, h1, h2]
theorem add_eq (b o j : Nat) : (⟨b, o, none⟩ : Addr).add j = ⟨b, o + j, none⟩ := by unfold Addr.add; split <;> simp_all
theorem seg_cell {w : World} {ok : Nat → Prop} {ad : Addr} {cs : List Value} (h : Seg w ok ad cs) : ∃ b o, ad = ⟨b, o, none⟩ ∧ ∀ j v, cs[j]? = some v → w.cell? ⟨b, o + j, none⟩ = some v := by
  obtain ⟨h1, _, c, e, fr, h3, h4⟩ := h
  obtain ⟨b, o, s⟩ := ad
  cases h1
  exact ⟨b, o, rfl, fun j v hv => by simp [World.cell?, h3]; exact h4 j v hv⟩
theorem run_loadVar (h : TIok P t i) (w : World) (b o : Nat) (cs : List Value) (hl : cs.length = i.size) (ha : i.agg = false → ∃ v, cs = [v]) (hc : ∀ j v, cs[j]? = some v → w.cell? ⟨b, o + j, none⟩ = some v) :
    ∃ v, (loadVar t ⟨b, o, none⟩).run P w = .ok v w ∧ (i.agg = true → v = .agg cs.toArray) ∧ (i.agg = false → cs = [v]) := by
  unfold loadVar
  rw [Sem.run_bind, run_isAgg h w]
  cases hg : i.agg with
  | true =>
    have h1 := run_loadCells_list (P := P) w ⟨b, o, none⟩ cs (fun j v hv => by rw [add_eq]; exact hc j v hv)
    rw [hl] at h1
    exact ⟨.agg cs.toArray, by simp [run_sizeOf h, h1], fun _ => rfl, by simp⟩
  | false =>
    obtain ⟨v, rfl⟩ := ha hg
    have h1 := hc 0 v rfl
    exact ⟨v, by simp at h1; simp [h1], by simp, fun _ => rfl⟩
end
/-- A state: the frame's slots, and what the world holds. -/
def FrOK (g : G) (w : World) (ok : Nat → Prop) (fr : Fr) (tmps : Array Value) : Prop := ∀ t, RV g w ok (fget t fr) (tmps.getD t undef)
/-- What stays so through an activation: how many slots; how many numbers keep their place; from which block on its marks stand; the round in which it runs; the ranges over functions. -/
structure Env where
  nt : Nat
  pin : Nat
  b0 : Nat
  rd : Option Nat
  rt : Nat → Option RT
/-- Marks of ranges over functions, among the deferred calls: nothing else. -/
def DfOK (b0 : Nat) (w : World) (ok : Nat → Prop) : List Deferred → Prop
  | [] => True
  | d :: ds => (∃ D, d = { target := .collected D, args := #[] } ∧ b0 ≤ D ∧ ok D ∧ w.heap[D]? = some (.deferred (some [])) ∧ ∀ d' ∈ ds, d'.target ≠ .collected D) ∧ DfOK b0 w ok ds
theorem DfOK.mono {b0 : Nat} {w w' : World} {ok ok' : Nat → Prop} (h : ∀ D, ok D → w.heap[D]? = some (.deferred (some [])) → ok' D ∧ w'.heap[D]? = w.heap[D]?) : ∀ {ds : List Deferred}, DfOK b0 w ok ds → DfOK b0 w' ok' ds
  | [], _ => trivial
  | d :: ds, ⟨⟨D, h1, h2, h3, h4, h5⟩, h6⟩ => ⟨⟨D, h1, h2, (h D h3 h4).1, (h D h3 h4).2.trans h4, h5⟩, DfOK.mono h h6⟩
theorem Ext0.stays {p : Nat} {g g' : G} {X : Nat → Prop} {m m' : Mem} {w w' : World} (h : Ext0 p g m w g' m' w') : ∀ D, okB X g m D → w.heap[D]? = some (.deferred (some [])) → okB X g' m' D ∧ w'.heap[D]? = w.heap[D]? := by
  rintro D ⟨h1, h2⟩ h3
  have hlt := lt_of_heap h3
  exact ⟨⟨h1, fun h4 => (h.own D h4).elim h2 (by omega)⟩, h.keep D hlt h2⟩
theorem Ext.stays {g g' : G} {X : Nat → Prop} {m m' : Mem} {w w' : World} (h : Ext g m w g' m' w') : ∀ D, okB X g m D → w.heap[D]? = some (.deferred (some [])) → okB X g' m' D ∧ w'.heap[D]? = w.heap[D]? := (h.to0 (p := 0)).stays
structure StOK (g : G) (X : Nat → Prop) (E : Env) (fr : Fr) (m : Mem) (a : Act) (w : World) : Prop where
  inv : Inv g X m w
  fr : FrOK g w (okB X g m) fr a.tmps
  size : a.tmps.size = E.nt
  defers : DfOK E.b0 w (okB X g m) a.defers
  rt : g.rt = E.rt
  b0 : E.b0 ≤ w.heap.size
theorem RV_dead (g : G) (w : World) (ok : Nat → Prop) (v : Value) : RV g w ok .dead v := ⟨fun h => (by cases h), fun _ => ⟨v, rfl⟩⟩
theorem FrOK.mono {g g' : G} {w w' : World} {ok ok' : Nat → Prop} (hg : GExt g g') (h : Holds w ok w' ok') {fr : Fr} {tmps : Array Value} (hf : FrOK g w ok fr tmps) : FrOK g' w' ok' fr tmps :=
  fun t => RV_mono hg h (hf t)
theorem FrOK.set {g : G} {w : World} {ok : Nat → Prop} {fr : Fr} {tmps : Array Value} (hf : FrOK g w ok fr tmps) {d : Nat} (hd : d < tmps.size) {v : AV} {cv : Value} (hv : RV g w ok v cv) :
    FrOK g w ok ((d, v) :: fr) (tmps.setIfInBounds d cv) := by
  intro t
  rw [fget_cons]
  by_cases e : d = t
  · subst e
    rw [if_pos rfl]
    have : (tmps.setIfInBounds d cv).getD d undef = cv := by simp [Array.getD, hd]
    rw [this]; exact hv
  · rw [if_neg e]
    have : (tmps.setIfInBounds d cv).getD t undef = tmps.getD t undef := by
      simp only [Array.getD_eq_getD_getElem?, Array.getElem?_setIfInBounds_ne e]
    rw [this]; exact hf t
theorem evc_ok (g : G) (w : World) (ok : Nat → Prop) (v : Value) : RV g w ok (evc v) v := by
  unfold evc
  split <;> first
    | exact RV_dead g w ok _
    | exact ⟨fun h => (by cases h), fun _ => rfl⟩
    | exact ⟨fun h => (by cases h), fun _ => ⟨_, rfl, rfl⟩⟩
theorem ev_ok {g : G} {w : World} {ok : Nat → Prop} {fr : Fr} {a : Act} (hf : FrOK g w ok fr a.tmps) (x : Operand) : RV g w ok (ev fr x) (a.eval x) := by
  cases x with
  | tmp t => exact hf t
  | const v => exact evc_ok g w ok v
  | global gl => exact RV_dead g w ok _
  | func f => exact ⟨fun h => (by cases h), fun _ => ⟨[], [], rfl, rfl, rfl⟩⟩
section
variable {P : Program} {X : Nat → Prop} {R : Type}
/-- Anywhere, or within a round. -/
def FR (rd : Option Nat) : Fence := { Fence.wide with round := rd }
theorem semAt_run {rd : Option Nat} {ρ : Operand → Value} {o : Oper} {w w' : World} {x : Next} (h : (execOp ρ o).run P w = .ok x w') (hx : ∀ d, x ≠ .defer d) : (o.semAt rd ρ).run P w = .ok x w' := by
  by_cases hd : ∃ c, o.op = .defer c
  · obtain ⟨c, hc⟩ := hd
    unfold execOp at h
    simp only [hc, Sem.run_bind] at h
    cases hr : (resolve ρ c o.type).run P w with
    | ok d w2 => rw [hr] at h; simp only [Result.andThen_ok, Sem.run_pure, Result.ok.injEq] at h; exact absurd h.1.symm (hx d)
    | halt s w2 => rw [hr] at h; cases h
  · rw [Oper.semAt_eq rd ρ o (fun c hc => hd ⟨c, hc⟩)]; exact h
/-- An operation answers as the abstract run says. -/
def OpR (P : Program) (X : Nat → Prop) (o : Oper) (a : Act) (w : World) (g : G) (m : Mem) (k kp : AV → Mem → Nat → Option R) (r : R) : Prop :=
  ∀ (rd : Option Nat) (next : Act → World → Prop) (Q : Exit → Act → World → Prop),
    (∀ v m' g' cv w', k v m' g'.n = some r → Inv g' X m' w' → RV g' w' (okB X g' m') v cv → Ext g m w g' m' w' → next (a.put o.dst cv) w') →
    (∀ v m' g' cv w', kp v m' g'.n = some r → Inv g' X m' w' → RV g' w' (okB X g' m') v cv → Ext g m w g' m' w' → Q (.panic [{ v := cv, recovered := false }]) a w') →
    o.wpIn (FR rd) 0 P a w next Q
variable {o : Oper} {a : Act} {w : World} {g : G} {m : Mem} {k kp : AV → Mem → Nat → Option R} {r : R}
theorem OpR.value {v : AV} {m' : Mem} {g' : G} {cv : Value} {w' : World} (hr : (execOp a.eval o).run P w = .ok (.value cv) w') (hk : k v m' g'.n = some r) (hI : Inv g' X m' w')
    (hv : RV g' w' (okB X g' m') v cv) (hx : Ext g m w g' m' w') : OpR P X o a w g m k kp r := by
  intro rd next Q h1 _
  refine ⟨fun _ _ => trivial, ?_⟩
  rw [show (FR rd).round = rd from rfl, semAt_run hr (fun d e => by cases e)]
  exact h1 v m' g' cv w' hk hI hv hx
theorem OpR.skip {m' : Mem} {g' : G} {w' : World} (hr : (execOp a.eval o).run P w = .ok .skip w') (hk : k .dead m' g'.n = some r) (hI : Inv g' X m' w')
    (hx : Ext g m w g' m' w') : OpR P X o a w g m k kp r := by
  intro rd next Q h1 _
  refine ⟨fun _ _ => trivial, ?_⟩
  rw [show (FR rd).round = rd from rfl, semAt_run hr (fun d e => by cases e)]
  exact h1 .dead m' g' undef w' hk hI (RV_dead _ _ _ _) hx
theorem RV_one {ok : Nat → Prop} {v : AV} {cv : Value} (ha : v.isAgg = false) (h : RC g w ok v [cv]) : RV g w ok v cv := ⟨fun h' => (by rw [ha] at h'; cases h'), fun _ => h⟩
theorem RV_get {ok : Nat → Prop} {v : AV} {cv : Value} (ha : v.isAgg = false) (h : RV g w ok v cv) : RC g w ok v [cv] := h.2 ha
/-- Of an address: where it leads. -/
theorem ptr_get {ok : Nat → Prop} {τ : Nat} {p : Path} {cv : Value} (h : RV g w ok (.ptr τ p) cv) : g.dom τ ∧ pathOK (g.loc τ).len p ∧ cv = .pointer (some ⟨(g.loc τ).blk, (g.loc τ).base + Path.off p, none⟩) := by
  obtain ⟨h1, h2, h3⟩ := h.2 rfl
  exact ⟨h1, h2, by cases h3; rfl⟩
theorem RV_of_cells {ok : Nat → Prop} {i : TI} {v : AV} {cs : List Value} {cv : Value} (ha : v.isAgg = i.agg) (h1 : i.agg = true → cv = .agg cs.toArray) (h2 : i.agg = false → cs = [cv]) (h : RC g w ok v cs) : RV g w ok v cv :=
  ⟨fun e => ⟨cs, h1 (ha ▸ e), h⟩, fun e => by have := h2 (ha ▸ e); subst this; exact h⟩
theorem len_one {i : TI} {v : AV} {cs : List Value} {ok : Nat → Prop} (ha : v.isAgg = i.agg) (h : RC g w ok v cs) : i.agg = false → ∃ u, cs = [u] := by
  intro e
  have h1 := RC_len v cs h
  have h2 : v.size = 1 := by
    rw [← ha] at e
    cases v with
    | d t x => cases t <;> first | rfl | cases e
    | pr => cases e
    | one => cases e
    | _ => rfl
  rw [h2] at h1
  match cs, h1 with
  | [u], _ => exact ⟨u, rfl⟩
theorem beq_bool {a b : Bool} (h : (a == b) = true) : a = b := by simpa using h
theorem load_ok {t : TypeId} {i : TI} {x : Operand} (ho : o.op = .load t x) (hi : TIok P t i) (hI : Inv g X m w) {fr : Fr} (hf : FrOK g w (okB X g m) fr a.tmps)
    (h : loadA m (fun v => bif Nat.beq v.size i.size && (v.isAgg == i.agg) then k v m g.n else none) (ev fr x) = some r) : OpR P X o a w g m k kp r := by
  have hx := ev_ok hf x
  have fin : ∀ (v : AV) (b off : Nat) (cs : List Value), a.eval x = .pointer (some ⟨b, off, none⟩) → (bif Nat.beq v.size i.size && (v.isAgg == i.agg) then k v m g.n else none) = some r → RC g w (okB X g m) v cs →
      (∀ j u, cs[j]? = some u → w.cell? ⟨b, off + j, none⟩ = some u) → OpR P X o a w g m k kp r := by
    intro v b off cs he hk hv hc
    cases hb : Nat.beq v.size i.size && (v.isAgg == i.agg) with
    | false => rw [hb] at hk; cases hk
    | true =>
      rw [hb] at hk
      rw [Bool.and_eq_true] at hb
      have hag := beq_bool hb.2
      obtain ⟨cv, h1, h2, h3⟩ := run_loadVar hi w b off cs (by rw [RC_len v cs hv]; exact Nat.eq_of_beq_eq_true hb.1) (len_one hag hv) hc
      refine OpR.value (v := v) (m' := m) (g' := g) (cv := cv) (w' := w) ?_ hk hI (RV_of_cells hag h2 h3 hv) (Ext.refl _ _ _)
      unfold execOp
      simp only [ho, Instr.loadAt, Instr.sureAddr, he, Sem.run_bind, Sem.run_pure, Result.andThen_ok, h1]
  cases hq : ev fr x with
  | ptr τ p =>
    rw [hq] at h hx
    obtain ⟨h1, h2, h3⟩ := ptr_get hx
    simp only [loadA] at h
    have hB := hI.ok τ
    cases hm : mget τ m with
    | var v =>
      rw [hm] at h hB
      simp only at h
      obtain ⟨hb0, hs, hnn, c, e, hh, hv⟩ := hB
      cases hgv : v.get p with
      | none => rw [hgv] at h; cases h
      | some y =>
        rw [hgv] at h
        obtain ⟨c0, c1, c2, e1, e2, e3⟩ := get_ok p v y hgv h2 _ hv
        refine fin y _ _ c1 h3 h e3 (fun j u hu => ?_)
        simp only [World.cell?, hh, hb0, Nat.zero_add]
        have : c.toList[Path.off p + j]? = some u := by
          rw [e1, ← e2, List.append_assoc, List.getElem?_append_right (by omega), Nat.add_sub_cancel_left, List.getElem?_append_left (by have := (List.getElem?_eq_some_iff.1 hu).1; exact this)]
          exact hu
        simpa using this
    | row t' xs =>
      rw [hm] at h hB
      simp only at h
      cases p with
      | nil => cases h
      | cons s q =>
        cases s with
        | row j sz =>
          simp only at h
          cases hb : Nat.beq sz t'.size with
          | false => rw [hb] at h; cases h
          | true =>
            rw [hb] at h
            simp only [cond_true] at h
            have hsz := Nat.eq_of_beq_eq_true hb
            subst hsz
            cases hgv : (AV.d t' (getAt t'.zero xs j)).get q with
            | none => rw [hgv] at h; cases h
            | some y =>
              rw [hgv] at h
              obtain ⟨b1, b2, b0⟩ := hB
              have hj : j < xs.length := by rw [b1]; exact h2 (.row j t'.size) (by simp)
              obtain ⟨b7, c, e, cells, b3, b4, b5, b6⟩ := b0.resolve_left (fun h => by omega)
              have hR := fun x cs h => Rd_len w (okB X g m) t' x cs h
              have hat := RdL_at hR xs cells b4 j t'.zero hj
              obtain ⟨c0, c1, c2, e1, e2, e3⟩ := get_ok (g := g) (n := (g.loc τ).len) q (.d t' (getAt t'.zero xs j)) y hgv (fun s hs => h2 s (by simp [hs])) _ hat
              refine fin y _ _ c1 h3 h e3 (fun jj u hu => ?_)
              have hjl : jj < c1.length := (List.getElem?_eq_some_iff.1 hu).1
              have k1 : cells[j * t'.size + (Path.off q + jj)]? = some u := by
                have k2 : ((cells.drop (j * t'.size)).take t'.size)[Path.off q + jj]? = some u := by
                  rw [e1, ← e2, List.append_assoc, List.getElem?_append_right (by omega), Nat.add_sub_cancel_left, List.getElem?_append_left hjl]
                  exact hu
                rw [List.getElem?_take] at k2
                split at k2
                · rw [List.getElem?_drop] at k2; exact k2
                · cases k2
              have k3 := b5 _ _ k1
              simp only [World.cell?, b3]
              simp only [Path.off, Sel.off]
              rw [show (g.loc τ).base + (j * t'.size + Path.off q) + jj = (g.loc τ).base + (j * t'.size + (Path.off q + jj)) by omega]
              simpa using k3
        | _ => cases h
    | _ => rw [hm] at h; cases h
  | pv t' y =>
    rw [hq] at h hx
    obtain ⟨ad, cells, e1, e2, e3⟩ := hx.2 rfl
    obtain ⟨b, off, rfl, hc⟩ := seg_cell e3
    refine fin (.d t' y) b off cells (List.cons.inj e1).1 h e2 hc
  | _ => rw [hq] at h; cases h
theorem frz1_row (τ : Nat) (m : Mem) (σ : Nat) (h : (mget σ (frz1 τ m)).live = true) : mget σ (frz1 τ m) = mget σ m := by
  unfold frz1 at h ⊢
  cases hm : mget τ m with
  | row t xs =>
    rw [hm] at h
    simp only at h ⊢
    rw [mget_cons] at h ⊢
    by_cases e : τ = σ
    · rw [if_pos e] at h; cases h
    · rw [if_neg e]
  | _ => rfl
theorem frzL_row : ∀ (l : List Nat) (m : Mem) (σ : Nat), (mget σ (frzL l m)).live = true → mget σ (frzL l m) = mget σ m
  | [], m, σ, h => rfl
  | τ :: l, m, σ, h => by
    have h1 := frzL_row l (frz1 τ m) σ h
    have h2 : mget σ (frzL (τ :: l) m) = mget σ (frz1 τ m) := h1
    rw [h2]
    exact frz1_row τ m σ (by rw [← h2]; exact h)
theorem mk2_sto {a b : AV} (ha : a.sto = true) (hb : b.sto = true) : (AV.mk2 a b).sto = true := by
  unfold AV.mk2; split
  · rfl
  · simp [AV.sto, ha, hb]
theorem split_sto {v a b : AV} (h : v.split = some (a, b)) (hv : v.sto = true) : a.sto = true ∧ b.sto = true := by
  unfold AV.split at h
  split at h
  · cases h; exact ⟨rfl, rfl⟩
  · cases h; simpa [AV.sto] using hv
  · cases h
theorem put_sto {y : AV} (hy : y.sto = true) : ∀ (k : Nat) (l : Bool) (v v' : AV), v.put y k l = some v' → v.sto = true → v'.sto = true
  | 0, true, v, v', h, hv => by simp only [AV.put] at h; cases h; exact hy
  | 0, false, v, v', h, hv => by
    simp only [AV.put] at h
    split at h
    · rename_i a b hs; cases h; exact mk2_sto hy (split_sto hs hv).2
    · cases h
  | k + 1, l, v, v', h, hv => by
    simp only [AV.put] at h
    split at h
    · rename_i a b hs
      split at h
      · rename_i b' hb'; cases h
        exact mk2_sto (split_sto hs hv).1 (put_sto hy k l b b' hb' (split_sto hs hv).2)
      · cases h
    · cases h
theorem comp_sto : ∀ (k : Nat) (l : Bool) (v : AV) (o o' : Nat) (x : AV), v.comp k l o = some (o', x) → v.sto = true → x.sto = true
  | 0, true, v, o, o', x, h, hv => by simp only [AV.comp] at h; cases h; exact hv
  | 0, false, v, o, o', x, h, hv => by
    simp only [AV.comp] at h
    split at h
    · rename_i a b hs; cases h; exact (split_sto hs hv).1
    · cases h
  | k + 1, l, v, o, o', x, h, hv => by
    simp only [AV.comp] at h
    split at h
    · rename_i a b hs; exact comp_sto k l b _ _ x h (split_sto hs hv).2
    · cases h
theorem sel_sto {v x : AV} {s : Sel} (h : v.sel s = some x) (hv : v.sto = true) : x.sto = true := by
  cases s with
  | fld k l off =>
    simp only [AV.sel] at h
    split at h
    · rename_i o a hc
      cases hb : Nat.beq o off with
      | false => rw [hb] at h; cases h
      | true => rw [hb] at h; cases h; exact comp_sto k l v 0 _ _ hc hv
    · cases h
  | inn =>
    simp only [AV.sel] at h
    split at h
    · cases h; rfl
    · cases h; exact hv
    · cases h
  | idx i sz n =>
    simp only [AV.sel] at h
    split at h
    · rename_i mm t xs
      cases hb : Nat.beq n mm && Nat.beq sz t.size with
      | false => rw [hb] at h; cases h
      | true => rw [hb] at h; cases h; rfl
    · cases h
  | row i sz => cases h
theorem set_sto {m : Mem} : ∀ (p : Path) (v x v' : AV), v.set m x p = some v' → v.sto = true → x.sto = true → v'.sto = true
  | [], v, x, v', h, hv, hx => by
    simp only [AV.set] at h
    cases hb : Nat.beq x.size v.size with
    | false => rw [hb] at h; cases h
    | true => rw [hb] at h; cases h; exact hx
  | .fld k l off :: p, v, x, v', h, hv, hx => by
    simp only [AV.set] at h
    split at h
    · rename_i a ha
      split at h
      · rename_i a' ha'
        exact put_sto (set_sto p a x a' ha' (sel_sto ha hv) hx) k l v v' h hv
      · cases h
    · cases h
  | .inn :: p, v, x, v', h, hv, hx => by
    simp only [AV.set] at h
    split at h
    · rename_i a ha
      split at h
      · rename_i a' ha'
        cases h
        have := set_sto p a x a' ha' (sel_sto ha hv) hx
        unfold AV.mk1; split
        · rfl
        · exact this
      · cases h
    · cases h
  | .idx i sz n :: p, v, x, v', h, hv, hx => by
    simp only [AV.set] at h
    split at h
    · rename_i q t xs
      cases hb : Nat.beq n q && Nat.beq sz t.size with
      | false => rw [hb] at h; cases h
      | true =>
        rw [hb] at h
        simp only [cond_true] at h
        split at h
        · split at h
          · cases h; rfl
          · cases h
        · cases h
    · cases h
  | .row i sz :: p, v, x, v', h, hv, hx => by cases h
/-- A row, and a part of one of its elements laid anew. -/
theorem splice_at (cells c : List Value) (base jo sz : Nat) (ds c0 c1 c2 : List Value) (e1 : (cells.drop jo).take sz = c0 ++ c1 ++ c2) (off : Nat) (e2 : c0.length = off) (n : Nat) (hd : ds.length = n) (hl1 : c1.length = n)
    (hq : c0.length + c1.length + c2.length = sz) (hle : jo + sz ≤ cells.length) (b5 : ∀ j v, cells[j]? = some v → c[base + j]? = some v) (hc : base + cells.length ≤ c.length) :
    ∀ (jj : Nat) (u : Value), (cells.take jo ++ (c0 ++ ds ++ c2) ++ cells.drop (jo + sz))[jj]? = some u → (c.take (base + (jo + off)) ++ ds ++ c.drop (base + (jo + off) + n))[base + jj]? = some u := by
  have hcells : cells = cells.take jo ++ (c0 ++ c1 ++ c2) ++ cells.drop (jo + sz) := by
    rw [← e1, List.append_assoc, ← List.drop_drop, List.take_append_drop, List.take_append_drop]
  have hlj : (cells.take jo).length = jo := by rw [List.length_take]; omega
  intro jj u hu
  have hL : (c.take (base + (jo + off))).length = base + (jo + off) := by rw [List.length_take]; omega
  by_cases h1 : jj < jo + off
  · rw [List.append_assoc, List.getElem?_append_left (by omega), List.getElem?_take_of_lt (by omega)]
    refine b5 jj u ?_
    rw [hcells]
    by_cases h2 : jj < jo
    · rw [List.append_assoc, List.getElem?_append_left (by omega)] at hu ⊢; exact hu
    · rw [List.append_assoc, List.getElem?_append_right (by omega)] at hu ⊢
      rw [List.append_assoc, List.append_assoc, List.getElem?_append_left (by omega)] at hu ⊢
      exact hu
  · by_cases h2 : jj < jo + off + n
    · rw [List.append_assoc, List.getElem?_append_right (by omega), List.getElem?_append_left (by omega)]
      rw [List.append_assoc, List.getElem?_append_right (by omega), List.append_assoc, List.append_assoc, List.getElem?_append_right (by omega), List.getElem?_append_left (by omega)] at hu
      rw [← hu]; congr 1; omega
    · rw [List.append_assoc, List.getElem?_append_right (by omega), List.getElem?_append_right (by omega), List.getElem?_drop]
      have hu' : cells[jj]? = some u := by
        rw [hcells]
        rw [List.append_assoc, List.getElem?_append_right (by omega), List.append_assoc, List.append_assoc, List.getElem?_append_right (by omega), List.getElem?_append_right (by omega)] at hu ⊢
        rw [← hu]; congr 1; omega
      rw [← b5 jj u hu']; congr 1; omega
theorem cells_size {ok : Nat → Prop} {v : AV} {cv : Value} (hs : v.sto = true) (h : RV g w ok v cv) : cv.cells.size = v.size := by
  have := RC_len _ _ (RV_cells hs h)
  simpa using this
theorem run_storeVar {t : TypeId} {i : TI} (hi : TIok P t i) {v : Value} (hl : v.cells.size = i.size) (w : World) (b off : Nat) (e : TypeId) (cur : Array Value) (hh : w.heap[b]? = some (.cells cur e (0, 0)))
    (hfit : off + i.size ≤ cur.size) (h1 : ∀ u ∈ v.cells.toList, u.oneCell' = true) :
    (storeVar t ⟨b, off, none⟩ v).run P w = .ok () (w.setRow b (cur.toList.take off ++ v.cells.toList ++ cur.toList.drop (off + i.size)).toArray) := by
  unfold storeVar
  rw [Sem.run_bind, run_sizeOf hi w]
  have h2 := run_storeCells_at P b off e v.cells.toList 0 cur w hh (by simp [hl]; exact hfit) h1
  simp only [Array.length_toList, Nat.add_zero, hl] at h2
  simp [hl, h2]
theorem setRow_size (w : World) (b : Nat) (c : Array Value) : (w.setRow b c).heap.size = w.heap.size := by simp [World.setRow]
theorem storeA_ok {t : TypeId} {i : TI} {x y : Operand} (ho : o.op = .store t x y) (hi : TIok P t i) (hI : Inv g X m w) {fr : Fr} (hf : FrOK g w (okB X g m) fr a.tmps)
    (hz : (ev fr y).size = i.size) (h : storeA m (ev fr y) (fun m => k .dead m g.n) (ev fr x) = some r) : OpR P X o a w g m k kp r := by
  have hx := ev_ok hf x
  have hy := ev_ok hf y
  cases hq : ev fr x with
  | ptr τ p =>
    rw [hq] at h hx
    obtain ⟨h1, h2, h3⟩ := ptr_get hx
    simp only [storeA] at h
    cases hs : (ev fr y).sto with
    | false => rw [hs] at h; cases h
    | true =>
    rw [hs] at h
    simp only [cond_true] at h
    have hyc := RV_cells hs hy
    have hcs : (a.eval y).cells.size = i.size := by rw [cells_size hs hy, hz]
    have hone : ∀ u ∈ (a.eval y).cells.toList, u.oneCell' = true := RC_one _ _ hs hyc
    have hB := hI.ok τ
    cases hm : mget τ m with
    | var v =>
      rw [hm] at h hB
      simp only at h
      obtain ⟨hb0, hvs, hnn, c, e, hh, hv⟩ := hB
      cases hgv : v.set m (ev fr y) p with
      | none => rw [hgv] at h; cases h
      | some v' =>
        rw [hgv] at h
        simp only at h
        obtain ⟨c0, c1, c2, e1, e2, e3, e4⟩ := set_ok (g := g) (w := w) (ok := okB X g m) (fun τ => hI.ok τ) p v (ev fr y) v' hgv h2 _ _ hv hyc
        have hl1 : c1.length = i.size := by rw [e3]; simpa using hcs
        have hcl : c.size = c0.length + c1.length + c2.length := by
          have := congrArg List.length e1
          simp at this; omega
        have hrun := run_storeVar hi hcs w (g.loc τ).blk (Path.off p) e c hh (by omega) hone
        have hnew : (c.toList.take (Path.off p) ++ (a.eval y).cells.toList ++ c.toList.drop (Path.off p + i.size)) = c0 ++ (a.eval y).cells.toList ++ c2 := by
          rw [e1, ← e2, ← hl1, List.append_assoc c0, List.take_left, List.drop_append, List.drop_append]
          simp
        rw [hnew] at hrun
        have hlive : Lv g m τ := ⟨by rw [hm]; rfl, hnn⟩
        have hh' := setRow_heap w (g.loc τ).blk c (c0 ++ (a.eval y).cells.toList ++ c2).toArray e _ hh
        have hoth : ∀ b, b ≠ (g.loc τ).blk → (w.setRow (g.loc τ).blk (c0 ++ (a.eval y).cells.toList ++ c2).toArray).heap[b]? = w.heap[b]? := fun b hb => setRow_other w _ b _ hb
        have hx' := Ext.upd (B' := .var v') hlive (setRow_size w (g.loc τ).blk (c0 ++ (a.eval y).cells.toList ++ c2).toArray) hoth rfl rfl rfl
        refine OpR.skip (m' := (τ, .var v') :: m) (g' := g) ?_ h (hI.upd hlive (setRow_size _ _ _) hoth rfl rfl rfl ?_) hx'
        · unfold execOp
          simp only [ho, Instr.storeAt, Instr.sureAddr, h3, hb0, Nat.zero_add, Sem.run_bind, Sem.run_pure, Result.andThen_ok, hrun]
        · exact ⟨hb0, set_sto p v _ v' hgv hvs hs, hnn, _, e, hh', RC_mono (GExt.refl g) (hx'.holds) _ _ e4⟩
    | row t' xs =>
      rw [hm] at h hB
      simp only at h
      obtain ⟨hI1, hx1⟩ := Inv.frzL (ev fr y).toks hI
      generalize hm1 : frzL (ev fr y).toks m = m1 at *
      cases hm2 : mget τ m1 with
      | row t2 xs2 =>
        rw [hm2] at h
        simp only at h
        have hsame : mget τ m1 = .row t' xs := by
          have := frzL_row (ev fr y).toks m τ (by rw [hm1, hm2]; rfl)
          rw [hm1, hm] at this; exact this
        cases p with
        | nil => cases h
        | cons s q =>
          cases s with
          | row j sz =>
            simp only at h
            cases hb : Nat.beq sz t'.size with
            | false => rw [hb] at h; cases h
            | true =>
            rw [hb] at h
            simp only [cond_true] at h
            have hsz := Nat.eq_of_beq_eq_true hb
            subst hsz
            cases hgv : (AV.d t' (getAt t'.zero xs j)).set m1 (ev fr y) q with
            | none => rw [hgv] at h; cases h
            | some v' =>
              rw [hgv] at h
              simp only at h
              cases hd : v'.data m1 t' with
              | none => rw [hd] at h; cases h
              | some yy =>
                rw [hd] at h
                simp only at h
                have hB := hI1.ok τ
                rw [hsame] at hB
                obtain ⟨b1, b2, b0⟩ := hB
                have hj : j < xs.length := by rw [b1]; exact h2 (.row j t'.size) (by simp)
                obtain ⟨b7, c, e, cells, b3, b4, b5, b6⟩ := b0.resolve_left (fun h => by omega)
                have hR := fun x cs h => Rd_len w (okB X g m1) t' x cs h
                have hat := RdL_at hR xs cells b4 j t'.zero hj
                have hyc1 := RC_mono hx1.gx hx1.holds _ _ hyc
                obtain ⟨c0, c1, c2, e1, e2, e3, e4⟩ := set_ok (g := g) (w := w) (ok := okB X g m1) (n := (g.loc τ).len) (fun τ => hI1.ok τ) q (.d t' (getAt t'.zero xs j)) (ev fr y) v' hgv (fun s hs => h2 s (by simp [hs])) _ _ hat hyc1
                have e5 := data_ok (g := g) (w := w) (ok := okB X g m1) (fun τ => hI1.ok τ) v' t' yy hd _ e4
                have hset := RdL_set hR xs cells b4 j yy _ hj e5
                have hcl := RdL_len hR xs cells b4
                have hl1 : c1.length = i.size := by rw [e3]; simpa using hcs
                have hq : c0.length + c1.length + c2.length = t'.size := by
                  have := congrArg List.length e1
                  rw [List.length_take, List.length_drop, hcl] at this
                  have hle : (j + 1) * t'.size ≤ xs.length * t'.size := Nat.mul_le_mul_right _ hj
                  rw [Nat.add_mul, Nat.one_mul] at hle
                  simp at this; omega
                have hle : (j + 1) * t'.size ≤ xs.length * t'.size := Nat.mul_le_mul_right _ hj
                have hle2 : xs.length * t'.size ≤ (g.loc τ).cap * t'.size := Nat.mul_le_mul_right _ (by omega)
                rw [Nat.add_mul, Nat.one_mul] at hle
                have hrun := run_storeVar hi hcs w (g.loc τ).blk ((g.loc τ).base + (j * t'.size + Path.off q)) e c b3 (by omega) hone
                generalize hN : (c.toList.take ((g.loc τ).base + (j * t'.size + Path.off q)) ++ (a.eval y).cells.toList ++ c.toList.drop ((g.loc τ).base + (j * t'.size + Path.off q) + i.size)) = nc at hrun
                have hncl : nc.length = c.size := by
                  rw [← hN]; simp only [List.length_append, List.length_take, List.length_drop, Array.length_toList]; omega
                have hlive : Lv g m1 τ := ⟨by rw [hsame]; rfl, b7⟩
                have hh' := setRow_heap w (g.loc τ).blk c nc.toArray e _ b3
                have hoth : ∀ b, b ≠ (g.loc τ).blk → (w.setRow (g.loc τ).blk nc.toArray).heap[b]? = w.heap[b]? := fun b hb => setRow_other w _ b _ hb
                have hx' := Ext.upd (B' := .row t' (xs.set j yy)) hlive (setRow_size w (g.loc τ).blk nc.toArray) hoth rfl rfl rfl
                refine OpR.skip (m' := (τ, .row t' (xs.set j yy)) :: m1) (g' := g) ?_ h (hI1.upd hlive (setRow_size _ _ _) hoth rfl rfl rfl ?_) (hx1.trans hx')
                · unfold execOp
                  simp only [ho, Instr.storeAt, Instr.sureAddr, h3, Path.off, Sel.off, Sem.run_bind, Sem.run_pure, Result.andThen_ok, hrun]
                · refine ⟨by rw [List.length_set]; exact b1, b2, .inr ⟨b7, nc.toArray, e, _, hh', RdL_mono (fun x cs => Rd_mono hx'.holds t' x cs) _ _ hset, fun jj u hu => ?_, by simp [hncl]; exact b6⟩⟩
                  rw [List.getElem?_toArray, ← hN]
                  exact splice_at cells c.toList (g.loc τ).base (j * t'.size) t'.size (a.eval y).cells.toList c0 c1 c2 e1 (Path.off q) e2 i.size (by simpa using hcs) hl1 hq (by omega) (fun j v h => by simpa using b5 j v h) (by have := c.length_toList; omega) jj u hu
          | _ => cases h
      | _ => rw [hm2] at h; cases h
    | _ => rw [hm] at h; cases h
  | _ => rw [hq] at h; cases h
end
end Go.Proofs.Ytkeolcgggondnaa.VX
